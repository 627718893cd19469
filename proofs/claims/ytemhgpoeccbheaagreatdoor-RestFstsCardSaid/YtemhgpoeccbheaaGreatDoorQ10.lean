/-
  The way of least cost from spot to spot.
-/
import Derived.Test.YtemhgpoeccbheaaGreatDoorQ08
import Derived.Test.YtemhgpoeccbheaaGreatDoorQ09
import Derived.Test.YtemhgpoeccbheaaGreatDoorQ05
set_option linter.unusedSimpArgs false
set_option linter.unusedVariables false
set_option maxRecDepth 100000
set_option maxHeartbeats 16000000
namespace Go.Fw
open Go Go.Proofs
theorem aAK (x:Int):Ct Tryz.prog 92 [.i x] [] [] 0 (Is 0 (.b (!decide (1<=x/\x<=9)))):=by
 refine ctW Tryz.tyOk 9 [] Tryz.func92 rfl (by simp) (by simp) (fr:= [(0,.i x)]) rfl ?_
 refine gO ?_
 refine⟨fun h=>?_,fun h=>?_⟩
 all_goals refine aQ.is ?_
 all_goals simp only[eqV,eqA,eqC]
 ·simp;omega
 ·have e:decide (1<=x/\x<=9)=decide (x<=9):=by simp;omega
  rw[e]
  by_cases h9:x<=9
  ·rw[decide_eq_true h9];simp;omega
  ·rw[decide_eq_false h9];simp;omega
theorem Ss (l:List Int) (h:l.length<=40):lQ l=if l.any (fun x=> !decide (1<=x/\x<=9))=true then 3 else 0:=by
 unfold lQ
 rw[if_neg (by omega)]
 by_cases e: ∀n∈l,1<=n/\n<=9
 ·rw[if_pos e,if_neg]
  simp only[List.any_eq_true,not_exists,not_and]
  intro x hx
  simp[e x hx]
 ·rw[if_neg e,if_pos]
  simp only[List.any_eq_true]
  obtain⟨n,h1,h2⟩: ∃n,n∈l/\ ¬(1<=n/\n<=9):=by
   apply Classical.byContradiction
   intro c
   exact e (fun n hn=>Classical.byContradiction fun c2=>c ⟨n,hn,c2⟩)
  exact⟨n,h1,by rw[decide_eq_false h2];rfl⟩
theorem yC (l:List Int) (cap:Nat):Ct Tryz.prog 37 [.c (.sl 0 1 0 l.length cap)] [] [(0,.arr false 3 .int l 0)] 1 (Is 1 (.i (lQ l))):=by
 refine ctW Tryz.tyOk 10 [] Tryz.func37 rfl (by simp) (by simp) (fr:= [(0,.c (.sl 0 1 0 l.length cap))]) rfl ?_
 refine gO ?_
 refine⟨fun h=>?_,fun h=>?_⟩
 ·refine aQ.is ?_
  simp only[eqV,eqA,eqC,lQ]
  rw[if_pos (by omega)]
 ·refine cI (gB l cap (by omega) 92 _ aAK Tryz.call92) [0] Tryz.call89 ?_
  rw[Ss l (by omega)]
  refine gO ?_
  refine⟨fun h=>?_,fun h=>?_⟩
  ·refine aQ.is ?_
   simp only[eqV,eqA,eqC]
   rw[if_pos h]
  ·refine aQ.is ?_
   simp only[eqV,eqA,eqC]
   rw[h]
   rfl
def cL (l:List Int) (p x:Int):Int×Bool:=if x=0 then(p,true)else(p+1,decide (p<l.length/\l.getD p.toNat 0=x))
theorem aAd (l:List Int) (cap:Nat) (p x:Int) (hl:l.length<=40) (hp:0<=p/\p<=l.length):Ct Tryz.prog 158 [.c (.sl 0 1 0 l.length cap),.i p,.i x] [] [(0,.arr false 3 .int l 0)] 1 (Is 1 (.tup [.c (.i (cL l p x).1),.c (.b (cL l p x).2)])):=by
 have e1:l.getD (0+p.toNat) EK.int.dflt=l.getD p.toNat 0:=by rw[Nat.zero_add];rfl
 refine ctW Tryz.tyOk 8 [] Tryz.func158 rfl (by simp) (by simp) (fr:= [(0,.c (.sl 0 1 0 l.length cap)),(1,.i p),(2,.i x)]) rfl ?_
 refine gO ?_
 refine⟨fun h=>?_,fun h=>⟨fun h=>?_,fun h=>?_⟩⟩
 all_goals refine aQ.is ?_
 all_goals simp only[eqV,eqA,Vd,eqC,cL]
 ·simp[h]
 ·rename_i hx
  rw[if_neg hx,e1]
  refine⟨rfl,?_,trivial⟩
  by_cases e:l.getD p.toNat 0=x
  ·rw[decide_eq_true ⟨h,e⟩,e];simp
  ·rw[decide_eq_false (fun c=>e c.2)]
   exact(beq_eq_false_iff_ne.2 e).symm
 ·rename_i hx
  rw[if_neg hx]
  refine⟨rfl,?_,trivial⟩
  exact decide_eq_false (fun c=>h c.1)
def Vl:List Int->List Int->Int
 | [],[]=>0
 | [],_=> -1
 |_::_,[]=>1
 |a::l,b::m=>if jB a b≠0 then jB a b else Vl l m
theorem qK (l:List Int) (k:Nat) (h:k<l.length):l.drop k=l.getD k 0::l.drop (k+1):=by
 rw[List.drop_eq_getElem_cons h]
 simp[List.getD,h]
theorem Oi (a b:List Int) (ca cb:Nat) (ha:a.length<=9223372036854775807):Ct Tryz.prog 173 [.c (.sl 0 1 0 a.length ca),.c (.sl 1 1 0 b.length cb)] [] [(0,.arr false 3 .int a 0),(1,.arr false 3 .int b 0)] 2 (Is 2 (.i (Vl a b))):=by
 refine ctW Tryz.tyOk 9 [9,10,11] Tryz.func173 rfl (by simp) (by simp) (fr:= [(0,.c (.sl 0 1 0 a.length ca)),(1,.c (.sl 1 1 0 b.length cb))]) rfl ?_
 refine gO ?_
 refine aJ (fun k:Nat=>⟨[(0,.c (.sl 0 1 0 a.length ca)),(1,.c (.sl 1 1 0 b.length cb)),(4,.i 0),(9,.c (.sl 0 1 0 a.length ca)),(10,.i a.length),(11,.i k)],[(0,.arr false 3 .int a 0),(1,.arr false 3 .int b 0)],2⟩) (fun k=>k<=a.length/\k<=b.length/\Vl a b=Vl (a.drop k) (b.drop k)) (fun k=>a.length-k) 0 [] ⟨by rfl,?_,?_⟩ (by simp) ?_
 ·simp
 ·simp
 ·intro k ⟨hk1,hk2,hk3⟩
  have e1:a.getD (0+(k:Int).toNat) EK.int.dflt=a.getD k 0:=by rw[Nat.zero_add,Int.toNat_natCast];rfl
  have e2:b.getD (0+(k:Int).toNat) EK.int.dflt=b.getD k 0:=by rw[Nat.zero_add,Int.toNat_natCast];rfl
  refine gO ?_
  refine⟨fun h=>⟨fun h=>?_,fun h=>?_⟩,fun h=>⟨fun h=>?_,fun h=>?_⟩⟩
  ·refine aQ.is ?_
   simp only[eqV,eqA,eqC]
   have:b.length<=k:=by omega
   rw[hk3,qK a k (by omega),List.drop_eq_nil_of_le this]
   rfl
  ·refine cI (kB (a.getD (0+(k:Int).toNat) EK.int.dflt) (b.getD (0+(k:Int).toNat) EK.int.dflt)) [] Tryz.call106 ?_
   rw[e1,e2]
   rw[qK a k (by omega),qK b k (by omega),Vl]at hk3
   generalize hc:jB (a.getD k 0) (b.getD k 0)=c at*
   refine gO ?_
   refine⟨fun h=>?_,fun h=>?_⟩
   ·refine aQ.is ?_
    simp only[eqV,eqA,eqC]
    rw[hk3,if_pos (by omega)]
   ·rw[if_neg (by omega)]at hk3
    refine⟨k+1,[],⟨by rfl,?_,?_⟩,⟨by omega,by omega,hk3⟩,by omega⟩
    ·simp
    ·simp
  ·refine aQ.is ?_
   simp only[eqV,eqA,eqC]
   rw[hk3,List.drop_eq_nil_of_le (by omega),qK b k (by omega)]
   rfl
  ·refine aQ.is ?_
   simp only[eqV,eqA,eqC]
   rw[hk3,List.drop_eq_nil_of_le (by omega),List.drop_eq_nil_of_le (by omega)]
   rfl
def Xa (x y:Trip):Bool:=decide (Vl [x.b,x.c,x.a] [y.b,y.c,y.a]<0)
theorem aCB (x y:Trip):Ct Tryz.prog 157 [SV.a (SA.agg [SC.i (Trip.a x),SC.i (Trip.b x),SC.i (Trip.c x)]),SV.a (SA.agg [SC.i (Trip.a y),SC.i (Trip.b y),SC.i (Trip.c y)])] [] [] 0 (Is 0 (.b (Xa x y))):=by
 refine ctW Tryz.tyOk 5 [] Tryz.func157 rfl (by simp) (by simp) (fr:= [(0,SV.a (SA.agg [SC.i (Trip.a x),SC.i (Trip.b x),SC.i (Trip.c x)])),(1,SV.a (SA.agg [SC.i (Trip.a y),SC.i (Trip.b y),SC.i (Trip.c y)]))]) rfl ?_
 (conv=>whnf)
 refine cI (Oi [x.b,x.c,x.a] [y.b,y.c,y.a] 3 3 (by simp)) [2,3] Tryz.call173 ?_
 refine gO ?_
 refine aQ.is ?_
 simp only[eqV,eqA,eqC,Xa]
structure Wk where
 F:TF
 u:List Int
 v:List Int
 cu:Nat
 cv:Nat
 rows:List Sli
 pi:List (Addr×List Int×Nat)
 es:List (Trip×Option Addr×Nat)
 clk:Nat
 pf:List (Addr×List Fnd×Nat)
def pV (W:Wk):List SC:= [.i W.F.st,.i W.F.start,.sl 1 1 0 W.F.fin.length W.F.capF,.sl 2 5 0 W.F.arcs.length W.F.capA,.sl 3 1 0 W.u.length W.cu,.sl 4 1 0 W.v.length W.cv,.sl 5 1 0 W.rows.length W.rows.length,.mp 7]
abbrev hpL (W:Wk) (es:List (Trip×Option Addr×Nat)) (clk:Nat) (pf:List (Addr×List Fnd×Nat)):List (Nat×SO):= [(0,.box 101 [.i W.F.st,.i W.F.start,.sl 1 1 0 W.F.fin.length W.F.capF,.sl 2 5 0 W.F.arcs.length W.F.capA,.sl 3 1 0 W.u.length W.cu,.sl 4 1 0 W.v.length W.cv,.sl 5 1 0 W.rows.length W.rows.length,.mp 7]),(1,.arr false 3 .int W.F.fin 0),(2,.arr false 55 .arc W.F.arcs 0),(3,.arr false 3 .int W.u 0),(4,.arr false 3 .int W.v 0),
 (5,.arr true 22 .sli W.rows 0),(6,.pool 3 .int W.pi),(7,.map .trip .adr es clk),(8,.pool 103 .fnd pf)]
abbrev hpW (W:Wk):List (Nat×SO):=hpL W W.es W.clk W.pf
structure bT (es:List (Trip×Option Addr×Nat)) (clk:Nat) (pf:List (Addr×List Fnd×Nat)):Prop where
 born:Pg es clk
 keys:(es.map (·.1)).Nodup
 adrs:(es.map (·.2.1)).Nodup
 row: ∀e∈es,∃a f,e.2.1=some a/\lkA pf a=some ([f],0)
def bH (es:List (Trip×Option Addr×Nat)) (pf:List (Addr×List Fnd×Nat)) (x:Trip):Option Fnd:=(lkM es x).bind fun oa=>(aM pf oa).head?
theorem Gi {es:List (Trip×Option Addr×Nat)} (hk:(es.map (·.1)).Nodup) {e:Trip×Option Addr×Nat} (he:e∈es):lkM es e.1=some e.2.1:=by
 induction es with
 |nil=>cases he
 |cons c es ih=>
  obtain⟨x,y,n⟩:=c
  simp only[lkM]
  rcases List.mem_cons.1 he with rfl|h
  ·simp
  ·simp only[List.map_cons,List.nodup_cons]at hk
   rw[if_neg (fun c=>hk.1 (by rw[c];exact List.mem_map_of_mem h)),ih hk.2 h]
theorem tU {es:List (Trip×Option Addr×Nat)} {x:Trip} {oa:Option Addr} (h:lkM es x=some oa): ∃n,(x,oa,n)∈es:=by
 induction es with
 |nil=>cases h
 |cons c es ih=>
  obtain⟨y,b,n⟩:=c
  simp only[lkM]at h
  split at h
  ·rename_i e
   cases h
   exact⟨n,by rw[e];exact List.mem_cons_self ..⟩
  ·obtain⟨n,h⟩:=ih h
   exact⟨n,List.mem_cons_of_mem _ h⟩
theorem bT.at {es:List (Trip×Option Addr×Nat)} {clk:Nat} {pf:List (Addr×List Fnd×Nat)} (h:bT es clk pf) {e:Trip×Option Addr×Nat} (he:e∈es): ∃a f,e.2.1=some a/\lkA pf a=some ([f],0)/\lkM es e.1=some (some a)/\aM pf (some a)=[f]/\bH es pf e.1=some f:=by
 obtain⟨a,f,h1,h2⟩:=h.row e he
 have h3:=Gi h.keys he
 rw[h1]at h3
 have h4:aM pf (some a)=[f]:=by simp[aM,h2]
 exact⟨a,f,h1,h2,h3,h4,by simp[bH,h3,h4]⟩
theorem bT.of {es:List (Trip×Option Addr×Nat)} {clk:Nat} {pf:List (Addr×List Fnd×Nat)} (h:bT es clk pf) {x:Trip} {f:Fnd} (hx:bH es pf x=some f): ∃a n,(x,some a,n)∈es/\lkA pf a=some ([f],0)/\lkM es x=some (some a)/\aM pf (some a)=[f]:=by
 unfold bH at hx
 cases hl:lkM es x with
 |none=>rw[hl]at hx;cases hx
 |some oa=>
  obtain⟨n,hn⟩:=tU hl
  obtain⟨a,g,h1,h2,h3,h4,h5⟩:=h.at hn
  simp only at h1
  subst h1
  rw[hl]at hx
  simp only[Option.bind_some,h4,List.head?_cons,Option.some.injEq]at hx
  subst hx
  exact⟨a,n,hn,h2,rfl,h4⟩
def Nst (es:List (Trip×Option Addr×Nat)) (pf:List (Addr×List Fnd×Nat)) (seen:List Nat) (best:Trip) (any:Bool):Prop:=
 (any=false/\ ∀e∈es,e.2.2∈seen-> ∀f,bH es pf e.1=some f->f.dn=true)\/
 (any=true/\ ∃g,bH es pf best=some g/\g.dn=false/\ ∀e∈es,e.2.2∈seen-> ∀f,bH es pf e.1=some f->f.dn=false->g.cost<=f.cost)
def left (es:List (Trip×Option Addr×Nat)) (seen:List Nat):Nat:=(es.filter fun e=> !seen.contains e.2.2).length
theorem aBz {es:List (Trip×Option Addr×Nat)} {seen:List Nat} {e:Trip×Option Addr×Nat} (he:e∈es) (hn:e.2.2∉seen):left es (seen++[e.2.2])<left es seen:=by
 unfold left
 have h:(es.filter fun c=> !(seen++[e.2.2]).contains c.2.2)=(es.filter fun c=> !seen.contains c.2.2).filter fun c=>c.2.2 !=e.2.2:=by
  rw[List.filter_filter]
  congr 1
  funext c
  by_cases h1:c.2.2∈seen<;>by_cases h2:c.2.2=e.2.2<;>simp[h1,h2]
 rw[h]
 refine Nat.lt_of_le_of_ne (List.length_filter_le _ _) (fun c=>?_)
 have:=(List.length_filter_eq_length_iff.1 c) e (List.mem_filter.2 ⟨he,by simpa using hn⟩)
 simp at this
theorem uK {es:List (Trip×Option Addr×Nat)} (h:(es.map (·.2.2)).Nodup) {e c:Trip×Option Addr×Nat} (he:e∈es) (hc:c∈es) (h2:c.2.2=e.2.2):c=e:=by
 induction es with
 |nil=>cases he
 |cons d es ih=>
  simp only[List.map_cons,List.nodup_cons,List.mem_map]at h
  rcases List.mem_cons.1 he with rfl|he<;>rcases List.mem_cons.1 hc with rfl|hc
  ·rfl
  ·exact absurd ⟨c,by assumption,h2⟩ h.1
  ·exact absurd ⟨e,by assumption,h2.symm⟩ h.1
  ·exact ih h.2 (by assumption) (by assumption)
section
variable {es:List (Trip×Option Addr×Nat)} {clk:Nat} {pf:List (Addr×List Fnd×Nat)} {seen:List Nat} {best:Trip} {e:Trip×Option Addr×Nat} {f:Fnd}
theorem Nst.skip (hm:bT es clk pf) {any:Bool} (h:Nst es pf seen best any) (he:e∈es) (hf:bH es pf e.1=some f) (hd:f.dn=true):Nst es pf (seen++[e.2.2]) best any:=by
 have key: ∀c∈es,c.2.2∈seen++[e.2.2]->c.2.2∈seen\/c=e:=by
  intro c hc h
  rcases List.mem_append.1 h with h|h
  ·exact .inl h
  ·exact .inr (uK hm.born.1 he hc (List.mem_singleton.1 h))
 rcases h with⟨q1,q2⟩|⟨q1,g,q2,q3,q4⟩
 ·refine .inl ⟨q1,fun c hc hs f' hf'=>?_⟩
  rcases key c hc hs with h|rfl
  ·exact q2 c hc h f' hf'
  ·rw[hf]at hf';cases hf';exact hd
 ·refine .inr ⟨q1,g,q2,q3,fun c hc hs f' hf' hd'=>?_⟩
  rcases key c hc hs with h|rfl
  ·exact q4 c hc h f' hf' hd'
  ·rw[hf]at hf';cases hf';rw[hd]at hd';cases hd'
theorem Nst.new (hm:bT es clk pf) (h:Nst es pf seen best false) (he:e∈es) (hf:bH es pf e.1=some f) (hd:f.dn=false):Nst es pf (seen++[e.2.2]) e.1 true:=by
 rcases h with⟨q1,q2⟩|⟨q1,g,q2,q3,q4⟩
 ·refine .inr ⟨rfl,f,hf,hd,fun c hc hs f' hf' hd'=>?_⟩
  rcases List.mem_append.1 hs with h|h
  ·have:=q2 c hc h f' hf'
   rw[hd']at this
   cases this
  ·have:=uK hm.born.1 he hc (List.mem_singleton.1 h)
   subst this
   rw[hf]at hf'
   cases hf'
   exact Int.le_refl _
 ·cases q1
theorem Nst.better {g:Fnd} (hm:bT es clk pf) (h:Nst es pf seen best true) (he:e∈es) (hf:bH es pf e.1=some f) (hd:f.dn=false) (hg:bH es pf best=some g) (hc:f.cost<=g.cost):Nst es pf (seen++[e.2.2]) e.1 true:=by
 rcases h with⟨q1,q2⟩|⟨q1,g',q2,q3,q4⟩
 ·cases q1
 ·rw[hg]at q2
  cases q2
  refine .inr ⟨rfl,f,hf,hd,fun c hc' hs f' hf' hd'=>?_⟩
  rcases List.mem_append.1 hs with h|h
  ·exact Int.le_trans hc (q4 c hc' h f' hf' hd')
  ·have:=uK hm.born.1 he hc' (List.mem_singleton.1 h)
   subst this
   rw[hf]at hf'
   cases hf'
   exact Int.le_refl _
theorem Nst.keep {g:Fnd} (hm:bT es clk pf) (h:Nst es pf seen best true) (he:e∈es) (hf:bH es pf e.1=some f) (hg:bH es pf best=some g) (hc:g.cost<=f.cost):Nst es pf (seen++[e.2.2]) best true:=by
 rcases h with⟨q1,q2⟩|⟨q1,g',q2,q3,q4⟩
 ·cases q1
 ·rw[hg]at q2
  cases q2
  refine .inr ⟨rfl,g,hg,q3,fun c hc' hs f' hf' hd'=>?_⟩
  rcases List.mem_append.1 hs with h|h
  ·exact q4 c hc' h f' hf' hd'
  ·have:=uK hm.born.1 he hc' (List.mem_singleton.1 h)
   subst this
   rw[hf]at hf'
   cases hf'
   exact hc
end
theorem Uf (W:Wk) (hm:bT W.es W.clk W.pf):Ct Tryz.prog 141 [.c (.ptr 0 0)] [] (hpW W) 9 (fun v s=> ∃best any,v= .tup [.agg [.i best.a,.i best.b,.i best.c],.c (.b any)]/\s=⟨[],[(0,.box 101 (pV W)),(5,.arr true 22 .sli W.rows 0),(6,.pool 3 .int W.pi),(7,.map .trip .adr W.es W.clk),(8,.pool 103 .fnd W.pf)],9⟩/\Nst W.es W.pf (W.es.map (·.2.2)) best any):=by
 refine ctW Tryz.tyOk 9 [13] Tryz.func141 rfl (by simp) (by simp) (fr:= [(0,.c (.ptr 0 0))]) rfl ?_
 refine gO ?_
 refine aJ (fun x:List Nat×Nat×Trip×Bool=>⟨[(0,.c (.ptr 0 0)),(2,.c (.ptr 9 0)),(3,.b false),(4,.c (.ptr 10 0)),(5,.b x.2.2.2),(13,.c (.ptr 11 0))],(9,.box 94 [.i 0,.i 0,.i 0])::(10,.box 94 [.i x.2.2.1.a,.i x.2.2.1.b,.i x.2.2.1.c])::(11,.iter 7 W.clk x.1 W.clk x.2.1)::hpW W,12⟩) (fun x=>Nst W.es W.pf x.1 x.2.2.1 x.2.2.2) (fun x=>left W.es x.1) ([],0,⟨0,0,0⟩,false) [] ⟨by rfl,?_,?_⟩ (.inl ⟨rfl,by simp⟩) ?_
 ·simp
 ·simp
 ·rintro⟨seen,cur,⟨b1,b2,b3⟩,any⟩ hN
  simp only at hN⊢
  (conv=>whnf)
  refine Ob.mk ⟨hm.born,rfl,rfl⟩ ?_
  (conv=>whnf)
  refine nX.mk (fun hall=>?_) (fun i hi hns=>?_)
  ·refine gO ?_
   refine⟨[],[(0,.box 101 (pV W)),(5,.arr true 22 .sli W.rows 0),(6,.pool 3 .int W.pi),(7,.map .trip .adr W.es W.clk),(8,.pool 103 .fnd W.pf)],9,.tup [.agg [.i b1,.i b2,.i b3],.c (.b any)],⟨by rfl,trivial,by simp[pV]⟩,by simp,⟨b1,b2,b3⟩,any,rfl,rfl,?_⟩
   unfold Nst at hN⊢
   simp only[List.mem_map]
   rcases hN with⟨q1,q2⟩|⟨q1,g,q2,q3,q4⟩
   ·exact .inl ⟨q1,fun e he _=>q2 e he (hall e he)⟩
   ·exact .inr ⟨q1,g,q2,q3,fun e he _=>q4 e he (hall e he)⟩
  ·have hmem:=List.getElem_mem hi
   generalize he:W.es[i]=e at*
   obtain⟨a,f,h1,h2,h3,h4,h5⟩:=hm.at hmem
   obtain⟨⟨x1,x2,x3⟩,oa,n⟩:=e
   simp only at h1 h3 h5 hns
   subst h1
   have h4l:0<(aM W.pf (some a)).length:=by rw[h4];exact Nat.one_pos
   (conv=>whnf)
   refine Ob.mk ⟨hm.born,rfl,hi,by rw[he];simp⟩ (fun _=>?_)
   rw[he]
   dsimp only
   have ef:(aM W.pf (some a)).getD 0 EK.fnd.dflt=f:=by rw[h4];rfl
   have hlt:=aBz hmem hns
   cases any with
   |false=>
    refine gO ?_
    refine⟨fun h=>?_,fun h=>?_⟩
    ·rw[ef]at h
     (conv=>whnf)
     refine⟨(seen++[n],i,⟨b1,b2,b3⟩,false),[],⟨by rfl,?_,?_⟩,hN.skip hm hmem h5 h,hlt⟩
     ·simp
     ·simp
    ·rw[ef]at h
     (conv=>whnf)
     refine⟨(seen++[n],i,⟨x1,x2,x3⟩,true),[],⟨by rfl,?_,?_⟩,hN.new hm hmem h5 h,hlt⟩
     ·simp
     ·simp
   |true=>
    have hN0:=hN
    rcases hN with⟨q1,q2⟩|⟨q1,g,q2,q3,q4⟩
    ·cases q1
    obtain⟨b,nb,r1,r2,r3,r4⟩:=hm.of q2
    have e1:(@lkM EK.trip.ty EK.adr.ty (EK.instDeq .trip) W.es (⟨b1,b2,b3⟩:Trip)).getD EK.adr.dflt=some b:=congrArg (fun x=>Option.getD x none) r3
    have eg:(aM W.pf (some b)).getD 0 EK.fnd.dflt=g:=by rw[r4];rfl
    refine gO ?_
    refine⟨fun h=>?_,fun h=>⟨?_,?_,fun h=>?_,fun h=>⟨fun h=>?_,fun h=>?_⟩⟩⟩
    ·rw[ef]at h
     (conv=>whnf)
     refine⟨(seen++[n],i,⟨b1,b2,b3⟩,true),[],⟨by rfl,?_,?_⟩,hN0.skip hm hmem h5 h,hlt⟩
     ·simp
     ·simp
    ·rw[e1];rfl
    ·rw[e1,r4];exact Nat.one_pos
    ·rw[ef]at*
     rw[e1,eg]at h
     (conv=>whnf)
     refine⟨(seen++[n],i,⟨x1,x2,x3⟩,true),[],⟨by rfl,?_,?_⟩,hN0.better hm hmem h5 (by assumption) q2 (Int.le_of_lt h),hlt⟩
     ·simp
     ·simp
    ·rw[ef]at*
     rw[e1,eg]at*
     (conv=>whnf)
     refine cI (aCB ⟨x1,x2,x3⟩ ⟨b1,b2,b3⟩) [] Tryz.call157 ?_
     refine gO ?_
     refine⟨fun h=>?_,fun h=>?_⟩
     ·refine⟨(seen++[n],i,⟨x1,x2,x3⟩,true),[],⟨by rfl,?_,?_⟩,hN0.better hm hmem h5 (by assumption) q2 (by omega),hlt⟩
      ·simp
      ·simp
     ·(conv=>whnf)
      refine⟨(seen++[n],i,⟨b1,b2,b3⟩,true),[],⟨by rfl,?_,?_⟩,hN0.keep hm hmem h5 q2 (by omega),hlt⟩
      ·simp
      ·simp
    ·rw[ef]at*
     rw[e1,eg]at*
     (conv=>whnf)
     refine⟨(seen++[n],i,⟨b1,b2,b3⟩,true),[],⟨by rfl,?_,?_⟩,hN0.keep hm hmem h5 q2 (by omega),hlt⟩
     ·simp
     ·simp
def mM (D:Trip->Option Fnd) (y:Trip) (e:Fnd):Trip->Option Fnd:=fun z=>if z=y then some e else D z
theorem Zg {κ ν:Type} [DecidableEq κ] (es:List (κ×ν×Nat)) (y:κ) (v:ν) (z:κ):lkM (nS es y v) z=if z=y/\(lkM es y).isSome then some v else lkM es z:=by
 induction es with
 |nil=>simp[nS,lkM]
 |cons e es ih=>
  obtain⟨x,w,n⟩:=e
  simp only[nS]
  by_cases h:x=y
  ·subst h
   by_cases hz:z=x
   ·subst hz;simp[lkM]
   ·simp[lkM,hz,Ne.symm hz]
  ·rw[if_neg h]
   by_cases hz:x=z
   ·subst hz;simp[lkM,h]
   ·simp only[lkM,hz,h,if_false,ih]
theorem Nn {κ ν:Type} [DecidableEq κ] (es fs:List (κ×ν×Nat)) (z:κ):lkM (es++fs) z=match lkM es z with
  |some v=>some v
  |none=>lkM fs z:=by
 induction es with
 |nil=>rfl
 |cons e es ih=>
  obtain⟨x,w,n⟩:=e
  simp only[List.cons_append,lkM]
  by_cases h:x=z
  ·simp[h]
  ·simp only[h,if_false,ih]
theorem fZ {κ ν:Type} [DecidableEq κ] (es:List (κ×ν×Nat)) (clk:Nat) (y:κ) (v:ν) (z:κ):lkM (bL es clk y v).1 z=if z=y then some v else lkM es z:=by
 unfold bL
 by_cases h:(lkM es y).isSome=true
 ·rw[if_pos h,Zg]
  simp[h]
 ·rw[if_neg h,Nn]
  simp only[lkM]
  by_cases hz:z=y
  ·subst hz
   simp only[Bool.not_eq_true,Option.isSome_eq_false_iff,Option.isNone_iff_eq_none]at h
   simp[h]
  ·simp only[hz,Ne.symm hz,if_false]
   cases lkM es z<;>rfl
theorem uW {κ ν:Type} [DecidableEq κ] (es:List (κ×ν×Nat)) (y:κ) (v:ν):(nS es y v).map (·.1)=es.map (·.1)/\(nS es y v).map (·.2.2)=es.map (·.2.2):=by
 induction es with
 |nil=>exact⟨rfl,rfl⟩
 |cons e es ih=>
  obtain⟨x,w,n⟩:=e
  simp only[nS]
  split
  ·exact⟨rfl,rfl⟩
  ·simp[ih.1,ih.2]
theorem Ih {κ ν:Type} [DecidableEq κ] {es:List (κ×ν×Nat)} {y:κ} {v:ν} {e:κ×ν×Nat} (h:e∈nS es y v):e∈es\/(e.1=y/\e.2.1=v):=by
 induction es with
 |nil=>cases h
 |cons c es ih=>
  obtain⟨x,w,n⟩:=c
  simp only[nS]at h
  split at h
  ·rename_i hx
   rcases List.mem_cons.1 h with rfl|h
   ·exact .inr ⟨hx,rfl⟩
   ·exact .inl (List.mem_cons_of_mem _ h)
  ·rcases List.mem_cons.1 h with rfl|h
   ·exact .inl (List.mem_cons_self ..)
   ·rcases ih h with h|h
    ·exact .inl (List.mem_cons_of_mem _ h)
    ·exact .inr h
theorem Tb {es:List (Trip×Option Addr×Nat)} (h:(es.map (·.2.1)).Nodup) (y:Trip) {v:Option Addr} (hv: ∀e∈es,e.2.1≠v):((nS es y v).map (·.2.1)).Nodup:=by
 induction es with
 |nil=>exact h
 |cons c es ih=>
  obtain⟨x,w,n⟩:=c
  simp only[List.map_cons,List.nodup_cons]at h
  simp only[nS]
  split
  ·simp only[List.map_cons,List.nodup_cons]
   refine⟨fun hm=>?_,h.2⟩
   obtain⟨e,he,e2⟩:=List.mem_map.1 hm
   exact hv e (List.mem_cons_of_mem _ he) e2
  ·simp only[List.map_cons,List.nodup_cons]
   refine⟨fun hm=>?_,ih h.2 (fun e he=>hv e (List.mem_cons_of_mem _ he))⟩
   obtain⟨e,he,e2⟩:=List.mem_map.1 hm
   rcases Ih he with he|⟨_,he⟩
   ·exact h.1 (e2▸List.mem_map_of_mem he)
   ·exact hv _ (List.mem_cons_self ..) (e2.symm.trans he)
section
variable {es:List (Trip×Option Addr×Nat)} {clk:Nat} {pf:List (Addr×List Fnd×Nat)}
theorem bT.ne (h:bT es clk pf) {a:Addr} (ha:lkA pf a=none): ∀e∈es,e.2.1≠some a:=by
 intro e he c
 obtain⟨b,f,h1,h2⟩:=h.row e he
 rw[c]at h1
 cases h1
 rw[ha]at h2
 cases h2
theorem Tg {a:Addr} {y:List Fnd×Nat} {oa:Option Addr} (h:oa≠some a):aM ((a,y)::pf) oa=aM pf oa:=by
 cases oa with
 |none=>rfl
 |some b=>simp only[aM,lkA,if_neg (fun c:a=b=>h (by rw[c]))]
theorem bT.ins (h:bT es clk pf) {a:Addr} (ha:lkA pf a=none) (y:Trip) (e:Fnd):
  bT (bL es clk y (some a)).1 (bL es clk y (some a)).2 ((a,[e],0)::pf)/\bH (bL es clk y (some a)).1 ((a,[e],0)::pf)=mM (bH es pf) y e:=by
 have hne:=h.ne ha
 have hrow: ∀c∈es,∃b f,c.2.1=some b/\lkA ((a,[e],0)::pf) b=some ([f],0):=by
  intro c hc
  obtain⟨b,f,h1,h2⟩:=h.row c hc
  refine⟨b,f,h1,?_⟩
  simp only[lkA]
  rw[if_neg (fun c':a=b=>hne c hc (by rw[h1,c'])),h2]
 constructor
 ·unfold bL
  by_cases hs:(lkM es y).isSome=true
  ·rw[if_pos hs]
   refine⟨⟨?_,?_⟩,?_,?_,?_⟩
   ·show((nS es y (some a)).map (·.2.2)).Nodup
    rw[(uW es y (some a)).2];exact h.born.1
   ·intro c hc
    have:c.2.2∈(nS es y (some a)).map (·.2.2):=List.mem_map_of_mem hc
    rw[(uW es y (some a)).2]at this
    obtain⟨c',hc',e'⟩:=List.mem_map.1 this
    rw[<-e']
    exact h.born.2 c' hc'
   ·show((nS es y (some a)).map (·.1)).Nodup
    rw[(uW es y (some a)).1];exact h.keys
   ·exact Tb h.adrs y hne
   ·intro c hc
    rcases Ih hc with hc|⟨_,hc⟩
    ·exact hrow c hc
    ·exact⟨a,e,hc,by simp[lkA]⟩
  ·rw[if_neg hs]
   have hnk:y∉es.map (·.1):=by
    intro hm
    obtain⟨c,hc,e'⟩:=List.mem_map.1 hm
    have:=Gi h.keys hc
    rw[e']at this
    rw[this]at hs
    exact hs rfl
   refine⟨⟨?_,?_⟩,?_,?_,?_⟩
   ·show((es++[(y,some a,clk)]).map (·.2.2)).Nodup
    rw[List.map_append,List.nodup_append]
    refine⟨h.born.1,by simp,?_⟩
    intro n hn m hm
    obtain⟨c,hc,rfl⟩:=List.mem_map.1 hn
    have:=h.born.2 c hc
    simp only[List.map_cons,List.map_nil,List.mem_singleton]at hm
    omega
   ·intro c hc
    show c.2.2<clk+1
    rcases List.mem_append.1 hc with hc|hc
    ·have:=h.born.2 c hc;omega
    ·rw[List.mem_singleton.1 hc];exact Nat.lt_succ_self _
   ·show((es++[(y,some a,clk)]).map (·.1)).Nodup
    rw[List.map_append,List.nodup_append]
    refine⟨h.keys,by simp,?_⟩
    intro n hn m hm
    simp only[List.map_cons,List.map_nil,List.mem_singleton]at hm
    subst hm
    intro c
    exact hnk (c▸hn)
   ·show((es++[(y,some a,clk)]).map (·.2.1)).Nodup
    rw[List.map_append,List.nodup_append]
    refine⟨h.adrs,by simp,?_⟩
    intro n hn m hm
    obtain⟨c,hc,rfl⟩:=List.mem_map.1 hn
    simp only[List.map_cons,List.map_nil,List.mem_singleton]at hm
    subst hm
    exact hne c hc
   ·intro c hc
    rcases List.mem_append.1 hc with hc|hc
    ·exact hrow c hc
    ·rw[List.mem_singleton.1 hc]
     exact⟨a,e,rfl,by simp[lkA]⟩
 ·funext z
  unfold bH mM
  rw[fZ]
  by_cases hz:z=y
  ·rw[if_pos hz,if_pos hz]
   simp[aM,lkA]
  ·rw[if_neg hz,if_neg hz]
   show _=(lkM es z).bind _
   cases hl:lkM es z with
   |none=>rfl
   |some oa=>
    obtain⟨n,hn⟩:=tU hl
    simp only[Option.bind_some]
    rw[Tg (hne _ hn)]
end
def kF (F:TF) (u v:List Int) (x:Trip) (cost:Int) (D:Trip->Option Fnd) (n:Int):Trip->Option Fnd:=
 let a:=F.arcs.getD n.toNat EK.arc.dflt
 let i:=cL u x.b a.i
 let o:=cL v x.c a.o
 if i.2=true/\o.2=true then
  match D ⟨a.t,i.1,o.1⟩with
  |none=>mM D ⟨a.t,i.1,o.1⟩ ⟨cost+a.w,n,x.a,x.b,x.c,false⟩
  |some d=>if cost+a.w<d.cost then mM D ⟨a.t,i.1,o.1⟩ ⟨cost+a.w,n,x.a,x.b,x.c,false⟩else D
 else D
def onD (F:TF) (u v:List Int) (x:Trip) (cost:Int) (D:Trip->Option Fnd) (ns:List Int):Trip->Option Fnd:=ns.foldl (kF F u v x cost) D
theorem oW (F:TF) (u v:List Int) (x:Trip) (cost:Int) (D:Trip->Option Fnd) (ns:List Int) (n:Int):onD F u v x cost D (ns++[n])=kF F u v x cost (onD F u v x cost D ns) n:=by
 simp[onD]
section
variable {F:TF} {u v:List Int} {x:Trip} {cost n:Int} {D:Trip->Option Fnd} {ar:Arc}
theorem Ck (har:F.arcs.getD n.toNat EK.arc.dflt=ar) (h:(!(cL u x.b ar.i).2)=true):kF F u v x cost D n=D:=by
 subst har
 rw[Bool.not_eq_true']at h
 exact if_neg (fun c=>by rw[h]at c;cases c.1)
theorem Cj (har:F.arcs.getD n.toNat EK.arc.dflt=ar) (h:(!(cL v x.c ar.o).2)=true):kF F u v x cost D n=D:=by
 subst har
 rw[Bool.not_eq_true']at h
 exact if_neg (fun c=>by rw[h]at c;cases c.2)
theorem Cl (har:F.arcs.getD n.toNat EK.arc.dflt=ar) (h1:(!(cL u x.b ar.i).2)=false) (h2:(!(cL v x.c ar.o).2)=false) (h3:D ⟨ar.t,(cL u x.b ar.i).1,(cL v x.c ar.o).1⟩=none):
  kF F u v x cost D n=mM D ⟨ar.t,(cL u x.b ar.i).1,(cL v x.c ar.o).1⟩ ⟨cost+ar.w,n,x.a,x.b,x.c,false⟩:=by
 subst har
 simp only[Bool.not_eq_false']at h1 h2
 simp only[kF,h1,h2,and_self,if_true,h3]
theorem yJ {d:Fnd} (har:F.arcs.getD n.toNat EK.arc.dflt=ar) (h1:(!(cL u x.b ar.i).2)=false) (h2:(!(cL v x.c ar.o).2)=false) (h3:D ⟨ar.t,(cL u x.b ar.i).1,(cL v x.c ar.o).1⟩=some d) (h4:cost+ar.w<d.cost):
  kF F u v x cost D n=mM D ⟨ar.t,(cL u x.b ar.i).1,(cL v x.c ar.o).1⟩ ⟨cost+ar.w,n,x.a,x.b,x.c,false⟩:=by
 subst har
 simp only[Bool.not_eq_false']at h1 h2
 simp only[kF,h1,h2,and_self,if_true,h3,h4]
theorem yK {d:Fnd} (har:F.arcs.getD n.toNat EK.arc.dflt=ar) (h1:(!(cL u x.b ar.i).2)=false) (h2:(!(cL v x.c ar.o).2)=false) (h3:D ⟨ar.t,(cL u x.b ar.i).1,(cL v x.c ar.o).1⟩=some d) (h4: ¬cost+ar.w<d.cost):
  kF F u v x cost D n=D:=by
 subst har
 simp only[Bool.not_eq_false']at h1 h2
 simp only[kF,h1,h2,and_self,if_true,h3,h4,if_false]
theorem bT.get {es:List (Trip×Option Addr×Nat)} {clk:Nat} {pf:List (Addr×List Fnd×Nat)} (hm:bT es clk pf) {y:Trip} (h:(!(@lkM EK.trip.ty EK.adr.ty (EK.instDeq .trip) es y).isSome)=false):
  ∃b d,(@lkM EK.trip.ty EK.adr.ty (EK.instDeq .trip) es y).getD EK.adr.dflt=some b/\aM pf (some b)=[d]/\bH es pf y=some d:=by
 have h':(lkM es y).isSome=true:=by
  rw[Bool.not_eq_false']at h
  exact h
 obtain⟨oa,hoa⟩:=Option.isSome_iff_exists.1 h'
 obtain⟨n,hn⟩:=tU hoa
 obtain⟨b,d,h1,h2,h3,h4,h5⟩:=hm.at hn
 exact⟨b,d,congrArg (fun x=>Option.getD x none) h3,h4,h5⟩
theorem bT.none {es:List (Trip×Option Addr×Nat)} {pf:List (Addr×List Fnd×Nat)} {y:Trip} (h:(!(@lkM EK.trip.ty EK.adr.ty (EK.instDeq .trip) es y).isSome)=true):bH es pf y=Option.none:=by
 have h':(lkM es y).isSome=false:=by
  rw[Bool.not_eq_true']at h
  exact h
 unfold bH
 cases hl:lkM es y with
 |none=>rfl
 |some b=>rw[hl]at h';cases h'
end
theorem aDD (W:Wk) (hF:FOk W.F) (hu:W.u.length<=40) (hv:W.v.length<=40) (x:Trip) (a:Addr) (c:Fnd) (hm:bT W.es W.clk W.pf) (ha:lkA W.pf a=some ([c],0)) (hc:0<=c.cost/\c.cost<=1000000000000000000)
  (hx1:0<=x.a/\x.a<W.rows.length) (hx2:0<=x.b/\x.b<=W.u.length) (hx3:0<=x.c/\x.c<=W.v.length)
  (row:Sli) (hrow:W.rows.getD x.a.toNat EK.sli.dflt=row) (ns:List Int) (hns:aM W.pi row.a=ns) (hn:row.n=ns.length) (hnl:ns.length<=3000) (hno: ∀n∈ns,0<=n/\n<W.F.arcs.length):
  Ct Tryz.prog 142 [.c (.ptr 0 0),SV.a (SA.agg [SC.i (Trip.a x),SC.i (Trip.b x),SC.i (Trip.c x)]),.c (.q (some a))] [] (hpW W) 9 (fun v s=> ∃es clk pf,v= .tup []/\s=⟨[],[(0,.box 101 (pV W)),(5,.arr true 22 .sli W.rows 0),(6,.pool 3 .int W.pi),(7,.map .trip .adr es clk),(8,.pool 103 .fnd pf)],9⟩/\bT es clk pf/\lkA pf a=some ([c],0)/\bH es pf=onD W.F W.u W.v x c.cost (bH W.es W.pf) ns):=by
 have e0:0+x.a.toNat=x.a.toNat:=Nat.zero_add _
 have hrow2:W.rows.getD (0+x.a.toNat) EK.sli.dflt=row:=by rw[e0];exact hrow
 refine ctW Tryz.tyOk 16 [23,24,25] Tryz.func142 rfl (by simp) (by simp) (fr:= [(0,.c (.ptr 0 0)),(1,SV.a (SA.agg [SC.i (Trip.a x),SC.i (Trip.b x),SC.i (Trip.c x)])),(2,.c (.q (some a)))]) rfl ?_
 refine gO ?_
 rw[hrow2]
 refine aJ (fun y:Nat×List (Trip×Option Addr×Nat)×Nat×List (Addr×List Fnd×Nat)=>⟨[(0,.c (.ptr 0 0)),(1,SV.a (SA.agg [SC.i (Trip.a x),SC.i (Trip.b x),SC.i (Trip.c x)])),(2,.c (.q (some a))),(4,.c (.ptr 9 0)),(23,.c (.h row)),(24,.i row.n),(25,.i y.1)],(9,.box 94 [.i x.a,.i x.b,.i x.c])::hpL W y.2.1 y.2.2.1 y.2.2.2,10⟩)
  (fun y=>y.1<=ns.length/\bT y.2.1 y.2.2.1 y.2.2.2/\lkA y.2.2.2 a=some ([c],0)/\bH y.2.1 y.2.2.2=onD W.F W.u W.v x c.cost (bH W.es W.pf) (ns.take y.1)) (fun y=>ns.length-y.1) (0,W.es,W.clk,W.pf) [] ⟨by rfl,?_,?_⟩ ⟨by omega,hm,ha,by simp[onD]⟩ ?_
 ·simp
 ·simp
 ·rintro⟨k,es,clk,pf⟩ ⟨i1,i2,i3,i4⟩
  simp only at i1 i2 i3 i4⊢
  have hc1:aM pf (some a)=[c]:=by simp[aM,i3]
  have hcl:0<(aM pf (some a)).length:=by rw[hc1];exact Nat.one_pos
  have ec:(aM pf (some a)).getD 0 EK.fnd.dflt=c:=by rw[hc1];rfl
  have ek:(k:Int).toNat=k:=Int.toNat_natCast k
  (conv=>whnf)
  refine aG (fun hk=>?_) (fun hk=>?_)
  ·have hk2:k<ns.length:=by omega
   have hrl:(k:Int).toNat<(aM W.pi row.a).length:=by rw[hns];omega
   have ha0:=hno _ (aB ns k 0 hk2)
   have en:(aM W.pi row.a).getD (k:Int).toNat EK.int.dflt=ns.getD k 0:=by rw[hns,ek];rfl
   generalize hnk:ns.getD k 0=n at*
   have hn0:0<=(aM W.pi row.a).getD (k:Int).toNat EK.int.dflt/\(aM W.pi row.a).getD (k:Int).toNat EK.int.dflt<W.F.arcs.length:=by rw[en];exact ha0
   have ear:W.F.arcs.getD (0+n.toNat) EK.arc.dflt=W.F.arcs.getD n.toNat EK.arc.dflt:=by rw[Nat.zero_add]
   have hao:=hF.arc _ (aB W.F.arcs n.toNat EK.arc.dflt (by omega))
   generalize har:W.F.arcs.getD n.toNat EK.arc.dflt=ar at*
   have hw0:=hao.w0
   have hw1:=hao.w1
   have hcb:0<=((aM pf (some a)).getD 0 EK.fnd.dflt).cost/\((aM pf (some a)).getD 0 EK.fnd.dflt).cost<=1000000000000000000:=by rw[ec];exact hc
   refine gO ?_
   rw[en,ear]
   refine cI (aAd W.u W.cu x.b ar.i hu hx2) [3] Tryz.call158 ?_
   refine gO ?_
   refine cI (aAd W.v W.cv x.c ar.o hv hx3) [4] Tryz.call158 ?_
   have htake:ns.take (k+1)=ns.take k++[n]:=by rw[aY ns k 0 hk2,hnk]
   refine gO ?_
   refine⟨fun h=>?_,fun h=>⟨fun h=>?_,fun h=>⟨fun h=>?_,fun h=>⟨?_,?_,?_,fun h=>?_,fun h=>?_⟩⟩⟩⟩
   ·refine⟨(k+1,es,clk,pf),[],⟨by rfl,?_,?_⟩,⟨by omega,i2,i3,?_⟩,by simp only;omega⟩
    ·simp
    ·simp
    ·simp only
     rw[htake,oW,<-i4]
     exact(Ck har h).symm
   ·refine⟨(k+1,es,clk,pf),[],⟨by rfl,?_,?_⟩,⟨by omega,i2,i3,?_⟩,by simp only;omega⟩
    ·simp
    ·simp
    ·simp only
     rw[htake,oW,<-i4]
     exact(Cj har h).symm
   ·intro a2 ha2 hb2
    have hins:=i2.ins ha2 ⟨ar.t,(cL W.u x.b ar.i).1,(cL W.v x.c ar.o).1⟩ ⟨((aM pf (some a)).getD 0 EK.fnd.dflt).cost+ar.w,n,x.a,x.b,x.c,false⟩
    have hne:a2≠a:=fun c2=>by rw[c2,i3]at ha2;cases ha2
    refine gO ?_
    refine⟨(k+1,_,_,(a2,[⟨((aM pf (some a)).getD 0 EK.fnd.dflt).cost+ar.w,n,x.a,x.b,x.c,false⟩],0)::pf),[],⟨by rfl,?_,?_⟩,⟨by omega,hins.1,by simp only[lkA,hne,if_false];exact i3,?_⟩,by simp only;omega⟩
    ·simp
    ·simp
     exact⟨rfl,rfl⟩
    ·simp only
     rw[hins.2,htake,oW,<-i4,ec]
     exact(Cl har (by assumption) (by assumption) (bT.none h)).symm
   ·obtain⟨b,d,g1,g2,g3⟩:=i2.get h
    rw[g1]
    rfl
   ·obtain⟨b,d,g1,g2,g3⟩:=i2.get h
    rw[g1,g2]
    exact Nat.one_pos
   ·obtain⟨b,d,g1,g2,g3⟩:=i2.get h
    rw[g1,g2]
    exact Nat.one_pos
   ·rename_i hh
    obtain⟨b,d,g1,g2,g3⟩:=i2.get hh
    have g4:(aM pf (some b)).getD 0 EK.fnd.dflt=d:=by rw[g2];rfl
    rw[g1,g4,ec]at h
    (conv=>whnf)
    intro a2 ha2 hb2
    have hins:=i2.ins ha2 ⟨ar.t,(cL W.u x.b ar.i).1,(cL W.v x.c ar.o).1⟩ ⟨((aM pf (some a)).getD 0 EK.fnd.dflt).cost+ar.w,n,x.a,x.b,x.c,false⟩
    have hne:a2≠a:=fun c2=>by rw[c2,i3]at ha2;cases ha2
    refine gO ?_
    refine⟨(k+1,_,_,(a2,[⟨((aM pf (some a)).getD 0 EK.fnd.dflt).cost+ar.w,n,x.a,x.b,x.c,false⟩],0)::pf),[],⟨by rfl,?_,?_⟩,⟨by omega,hins.1,by simp only[lkA,hne,if_false];exact i3,?_⟩,by simp only;omega⟩
    ·simp
    ·simp
     exact⟨rfl,rfl⟩
    ·simp only
     rw[hins.2,htake,oW,<-i4,ec]
     exact(yJ har (by assumption) (by assumption) g3 h).symm
   ·rename_i hh
    obtain⟨b,d,g1,g2,g3⟩:=i2.get hh
    have g4:(aM pf (some b)).getD 0 EK.fnd.dflt=d:=by rw[g2];rfl
    rw[g1,g4,ec]at h
    (conv=>whnf)
    refine⟨(k+1,es,clk,pf),[],⟨by rfl,?_,?_⟩,⟨by omega,i2,i3,?_⟩,by simp only;omega⟩
    ·simp
    ·simp
    ·simp only
     rw[htake,oW,<-i4]
     exact(yK har (by assumption) (by assumption) g3 h).symm
  ·have hkn:k=ns.length:=by omega
   subst hkn
   refine gO ?_
   rw[List.take_length]at i4
   refine⟨[],[(0,.box 101 (pV W)),(5,.arr true 22 .sli W.rows 0),(6,.pool 3 .int W.pi),(7,.map .trip .adr es clk),(8,.pool 103 .fnd pf)],9,.tup [],⟨by rfl,trivial,by simp[pV]⟩,by simp,es,clk,pf,rfl,rfl,i2,i3,i4⟩
def dB (F:TF) (u v:List Int) (x:Trip) (n:Nat) (y:Trip) (w:Int):Prop:=
 ∃a,F.arcs[n]?=some a/\a.f=x.a/\(cL u x.b a.i).2=true/\(cL v x.c a.o).2=true/\y=⟨a.t,(cL u x.b a.i).1,(cL v x.c a.o).1⟩/\w=a.w
def st0 (F:TF):Trip:=⟨F.start,0,0⟩
def Ex (F:TF) (u v:List Int) (x:Trip):Prop:=(0<=x.a/\x.a<F.st)/\(0<=x.b/\x.b<=u.length)/\(0<=x.c/\x.c<=v.length)
theorem Kd {l:List Int} {p x:Int} (hp:0<=p/\p<=l.length) (h:(cL l p x).2=true):0<=(cL l p x).1/\(cL l p x).1<=l.length:=by
 unfold cL at h⊢
 split at h
 ·rename_i e;rw[if_pos e];exact hp
 ·rename_i e
  rw[if_neg e]
  simp only[decide_eq_true_eq]at h
  constructor
  ·show 0<=p+1
   omega
  ·show p+1<=_
   omega
section
variable {F:TF} {u v:List Int}
theorem dB.box (hF:FOk F) {x y:Trip} {n:Nat} {w:Int} (h:dB F u v x n y w) (hx:Ex F u v x):Ex F u v y:=by
 obtain⟨a,h1,h2,h3,h4,rfl,rfl⟩:=h
 have ha:=hF.arc a (List.mem_of_getElem? h1)
 exact⟨⟨ha.t0,ha.t1⟩,Kd hx.2.1 h3,Kd hx.2.2 h4⟩
theorem dB.wt (hF:FOk F) {x y:Trip} {n:Nat} {w:Int} (h:dB F u v x n y w):0<=w/\w<=1000000000:=by
 obtain⟨a,h1,h2,h3,h4,rfl,rfl⟩:=h
 have ha:=hF.arc a (List.mem_of_getElem? h1)
 exact⟨ha.w0,ha.w1⟩
theorem dB.fn {x y y':Trip} {n:Nat} {w w':Int} (h:dB F u v x n y w) (h':dB F u v x n y' w'):y=y'/\w=w':=by
 obtain⟨a,h1,h2,h3,h4,rfl,rfl⟩:=h
 obtain⟨a',h1',h2',h3',h4',rfl,rfl⟩:=h'
 rw[h1]at h1'
 cases h1'
 exact⟨rfl,rfl⟩
theorem Ic {x:Trip} {cost:Int} {D:Trip->Option Fnd} {k:Nat} {a:Arc} (hk:F.arcs[k]?=some a) (hf:a.f=x.a):
  (kF F u v x cost D k=D/\ ∀y w,dB F u v x k y w-> ∃d,D y=some d/\d.cost<=cost+w)\/
  ∃y w,dB F u v x k y w/\kF F u v x cost D k=mM D y ⟨cost+w,k,x.a,x.b,x.c,false⟩/\ ∀d,D y=some d->cost+w<d.cost:=by
 have har:F.arcs.getD (k:Int).toNat EK.arc.dflt=a:=by rw[Int.toNat_natCast];simp[List.getD,hk]
 cases h1:(cL u x.b a.i).2 with
 |false=>
  refine .inl ⟨Ck har (by rw[h1];rfl),?_⟩
  rintro y w ⟨b,g1,g2,g3,g4,_⟩
  rw[hk]at g1
  cases g1
  rw[h1]at g3
  cases g3
 |true=>
  cases h2:(cL v x.c a.o).2 with
  |false=>
   refine .inl ⟨Cj har (by rw[h2];rfl),?_⟩
   rintro y w ⟨b,g1,g2,g3,g4,_⟩
   rw[hk]at g1
   cases g1
   rw[h2]at g4
   cases g4
  |true=>
   have he:dB F u v x k ⟨a.t,(cL u x.b a.i).1,(cL v x.c a.o).1⟩ a.w:=⟨a,hk,hf,h1,h2,rfl,rfl⟩
   cases h3:D ⟨a.t,(cL u x.b a.i).1,(cL v x.c a.o).1⟩with
   |none=>exact .inr ⟨_,_,he,Cl har (by rw[h1];rfl) (by rw[h2];rfl) h3,fun d hd=>by rw[h3]at hd;cases hd⟩
   |some d=>
    by_cases h4:cost+a.w<d.cost
    ·exact .inr ⟨_,_,he,yJ har (by rw[h1];rfl) (by rw[h2];rfl) h3 h4,fun d' hd=>by rw[h3]at hd;cases hd;exact h4⟩
    ·refine .inl ⟨yK har (by rw[h1];rfl) (by rw[h2];rfl) h3 h4,?_⟩
     intro y w h
     obtain⟨rfl,rfl⟩:=he.fn h
     exact⟨d,h3,by omega⟩
structure Dj (F:TF) (u v:List Int) (D:Trip->Option Fnd) (ord:List Trip) (rk:Trip->Nat) (B:Int) (Q:Trip->Nat->Prop):Prop where
 start: ∃c,D (st0 F)=some c/\c.cost=0
 rng: ∀y d,D y=some d->Ex F u v y
 dn: ∀y d,D y=some d->(d.dn=true <-> y∈ord)
 mem: ∀y∈ord,∃d,D y=some d
 cost: ∀y d,D y=some d->0<=d.cost/\d.cost<=B
 closed: ∀z∈ord,∀c,D z=some c-> ∀n y w,Q z n->dB F u v z n y w-> ∃d,D y=some d/\d.cost<=c.cost+w
 mono: ∀z∈ord,∀c,D z=some c-> ∀y d,D y=some d->y∉ord->c.cost<=d.cost
 rkl: ∀y∈ord,rk y<ord.length
 by': ∀y d,D y=some d->(y=st0 F/\d.cost=0/\d.arc= -1)\/ ∃(n:Nat) (x:Trip) (c:Fnd) (w:Int),d.arc=(n:Int)/\d.s=x.a/\d.i=x.b/\d.o=x.c/\x∈ord/\D x=some c/\dB F u v x n y w/\d.cost=c.cost+w/\(y∈ord->rk x<rk y)
def mark (D:Trip->Option Fnd) (x:Trip) (c:Fnd):Trip->Option Fnd:=mM D x {c with dn:=true}
theorem eE {D:Trip->Option Fnd} {y:Trip} {e:Fnd}:mM D y e y=some e:=by simp[mM]
theorem iB {D:Trip->Option Fnd} {y z:Trip} {e:Fnd} (h:z≠y):mM D y e z=D z:=by simp[mM,h]
theorem fO {D:Trip->Option Fnd} {x:Trip} {c:Fnd} (hx:D x=some c) {y:Trip} {d:Fnd} (h:mark D x c y=some d): ∃d',D y=some d'/\d.cost=d'.cost/\d.arc=d'.arc/\d.s=d'.s/\d.i=d'.i/\d.o=d'.o/\(y=x->d.dn=true)/\(y≠x->d=d'):=by
 by_cases e:y=x
 ·subst e
  unfold mark at h
  rw[eE]at h
  cases h
  exact⟨c,hx,rfl,rfl,rfl,rfl,rfl,fun _=>rfl,fun h=>absurd rfl h⟩
 ·unfold mark at h
  rw[iB e]at h
  exact⟨d,h,rfl,rfl,rfl,rfl,rfl,fun h=>absurd h e,fun _=>rfl⟩
theorem xR {D:Trip->Option Fnd} {x:Trip} {c:Fnd} (hx:D x=some c) {y:Trip} {d:Fnd} (h:D y=some d): ∃d',mark D x c y=some d'/\d'.cost=d.cost:=by
 by_cases e:y=x
 ·subst e
  rw[hx]at h
  cases h
  exact⟨_,eE,rfl⟩
 ·exact⟨d,by unfold mark;rw[iB e];exact h,rfl⟩
theorem Dj.mark {D:Trip->Option Fnd} {ord:List Trip} {rk:Trip->Nat} {B:Int} (h:Dj F u v D ord rk B (fun _ _=>True)) {x:Trip} {c:Fnd} (hx:D x=some c) (hd:c.dn=false) (hmin: ∀y d,D y=some d->d.dn=false->c.cost<=d.cost):
  Dj F u v (mark D x c) (ord++[x]) (fun z=>if z=x then ord.length else rk z) B (fun z _=>z≠x)/\(∀z∈ord++[x],∀d,mark D x c z=some d->d.cost<=c.cost):=by
 have hxn:x∉ord:=fun hm=>by have:=(h.dn x c hx).2 hm;rw[hd]at this;cases this
 have hno: ∀y d,D y=some d->y∉ord->d.dn=false:=by
  intro y d hy hn
  cases hdn:d.dn with
  |false=>rfl
  |true=>exact absurd ((h.dn y d hy).1 hdn) hn
 constructor
 ·constructor
  ·obtain⟨c0,h1,h2⟩:=h.start
   obtain⟨d,h3,h4⟩:=xR hx h1
   exact⟨d,h3,by rw[h4,h2]⟩
  ·intro y d hy
   obtain⟨d',h1,_⟩:=fO hx hy
   exact h.rng y d' h1
  ·intro y d hy
   obtain⟨d',h1,h2,_,_,_,_,h3,h4⟩:=fO hx hy
   by_cases e:y=x
   ·simp[h3 e,e]
   ·have:=h4 e
    subst this
    rw[h.dn y d h1]
    simp[e]
  ·intro y hy
   rcases List.mem_append.1 hy with hy|hy
   ·obtain⟨d,hd⟩:=h.mem y hy
    obtain⟨d',hd',_⟩:=xR hx hd
    exact⟨d',hd'⟩
   ·rw[List.mem_singleton.1 hy]
    exact⟨_,eE⟩
  ·intro y d hy
   obtain⟨d',h1,h2,_⟩:=fO hx hy
   rw[h2]
   exact h.cost y d' h1
  ·intro z hz cz hcz n y w hq he
   rcases List.mem_append.1 hz with hz|hz
   ·obtain⟨d',h1,h2,_⟩:=fO hx hcz
    obtain⟨d,h3,h4⟩:=h.closed z hz d' h1 n y w trivial he
    obtain⟨d2,h5,h6⟩:=xR hx h3
    exact⟨d2,h5,by omega⟩
   ·exact absurd (List.mem_singleton.1 hz) hq
  ·intro z hz cz hcz y d hy hyn
   simp only[List.mem_append,List.mem_singleton,not_or]at hyn
   obtain⟨d',h1,h2,_⟩:=fO hx hcz
   obtain⟨e',g1,g2,_⟩:=fO hx hy
   rw[h2,g2]
   rcases List.mem_append.1 hz with hz|hz
   ·exact h.mono z hz d' h1 y e' g1 hyn.1
   ·rw[List.mem_singleton.1 hz,hx]at h1
    cases h1
    exact hmin y e' g1 (hno y e' g1 hyn.1)
  ·intro y hy
   simp only[List.length_append,List.length_cons,List.length_nil]
   split
   ·omega
   ·rename_i hne
    rcases List.mem_append.1 hy with hy|hy
    ·have:=h.rkl y hy;omega
    ·exact absurd (List.mem_singleton.1 hy) hne
  ·intro y d hy
   obtain⟨d',h1,h2,h2a,h2b,h2c,h2d,_⟩:=fO hx hy
   rcases h.by' y d' h1 with⟨g1,g2,g3⟩|⟨n,z,cz,w,g1,g2,g3,g4,g5,g6,g7,g8,g9⟩
   ·exact .inl ⟨g1,by rw[h2,g2],by rw[h2a,g3]⟩
   ·obtain⟨cz',k1,k2⟩:=xR hx g6
    have hzx:z≠x:=fun e=>hxn (e▸g5)
    refine .inr ⟨n,z,cz',w,by rw[h2a,g1],by rw[h2b,g2],by rw[h2c,g3],by rw[h2d,g4],List.mem_append_left _ g5,k1,g7,by rw[h2,g8,k2],fun hy2=>?_⟩
    rw[if_neg hzx]
    by_cases e:y=x
    ·rw[if_pos e];exact h.rkl z g5
    ·rw[if_neg e]
     rcases List.mem_append.1 hy2 with hy2|hy2
     ·exact g9 hy2
     ·exact absurd (List.mem_singleton.1 hy2) e
 ·intro z hz d hzd
  obtain⟨d',h1,h2,_⟩:=fO hx hzd
  rw[h2]
  rcases List.mem_append.1 hz with hz|hz
  ·exact h.mono z hz d' h1 x c hx hxn
  ·rw[List.mem_singleton.1 hz,hx]at h1
   cases h1
   exact Int.le_refl _
theorem Dj.step (hF:FOk F) {D:Trip->Option Fnd} {ord:List Trip} {rk:Trip->Nat} {B:Int} {Q:Trip->Nat->Prop} (h:Dj F u v D ord rk B Q) {x:Trip} {c:Fnd} (hx:D x=some c) (hxo:x∈ord) (hmax: ∀z∈ord,∀d,D z=some d->d.cost<=c.cost)
  (hB:c.cost+1000000000<=B) {k:Nat} {a:Arc} (hk:F.arcs[k]?=some a) (hf:a.f=x.a):
  Dj F u v (kF F u v x c.cost D k) ord rk B (fun z n=>Q z n\/(z=x/\n=k))/\kF F u v x c.cost D k x=some c/\(∀z∈ord,∀d,kF F u v x c.cost D k z=some d->d.cost<=c.cost):=by
 rcases Ic (u:=u) (v:=v) (cost:=c.cost) (D:=D) hk hf with⟨e,hcl⟩|⟨y,w,he,e,hless⟩
 ·rw[e]
  refine⟨⟨h.start,h.rng,h.dn,h.mem,h.cost,?_,h.mono,h.rkl,h.by'⟩,hx,hmax⟩
  rintro z hz cz hcz n y w (hq|⟨rfl,rfl⟩) hed
  ·exact h.closed z hz cz hcz n y w hq hed
  ·rw[hx]at hcz
   cases hcz
   exact hcl y w hed
 ·rw[e]
  have hw:=he.wt hF
  have hyo:y∉ord:=by
   intro hy
   obtain⟨d,hd⟩:=h.mem y hy
   have h1:=hless d hd
   have h2:=hmax y hy d hd
   omega
  have hyx:x≠y:=fun e=>hyo (e▸hxo)
  have hord: ∀z∈ord,mM D y ⟨c.cost+w,k,x.a,x.b,x.c,false⟩ z=D z:=fun z hz=>iB (fun e=>hyo (e▸hz))
  have hc0:=h.cost x c hx
  refine⟨⟨?_,?_,?_,?_,?_,?_,?_,h.rkl,?_⟩,by rw[hord x hxo];exact hx,fun z hz d hd=>hmax z hz d (by rw[<-hord z hz];exact hd)⟩
  ·obtain⟨c0,h1,h2⟩:=h.start
   have:st0 F≠y:=fun e=>by
    have:=hless c0 (by rw[<-e];exact h1)
    omega
   exact⟨c0,by rw[iB this];exact h1,h2⟩
  ·intro z d hz
   by_cases ez:z=y
   ·subst ez;exact he.box hF (h.rng x c hx)
   ·rw[iB ez]at hz;exact h.rng z d hz
  ·intro z d hz
   by_cases ez:z=y
   ·subst ez
    rw[eE]at hz
    cases hz
    simp[hyo]
   ·rw[iB ez]at hz;exact h.dn z d hz
  ·intro z hz
   rw[hord z hz];exact h.mem z hz
  ·intro z d hz
   by_cases ez:z=y
   ·subst ez
    rw[eE]at hz
    cases hz
    simp only
    omega
   ·rw[iB ez]at hz;exact h.cost z d hz
  ·intro z hz cz hcz n y2 w2 hq hed
   rw[hord z hz]at hcz
   by_cases ey:y2=y
   ·subst ey
    refine⟨_,eE,?_⟩
    show c.cost+w<=cz.cost+w2
    rcases hq with hq|⟨rfl,rfl⟩
    ·obtain⟨d,h1,h2⟩:=h.closed z hz cz hcz n y2 w2 hq hed
     have:=hless d h1
     omega
    ·rw[hx]at hcz
     cases hcz
     have:=(he.fn hed).2
     omega
   ·rw[iB ey]
    rcases hq with hq|⟨rfl,rfl⟩
    ·exact h.closed z hz cz hcz n y2 w2 hq hed
    ·exact absurd (he.fn hed).1.symm ey
  ·intro z hz cz hcz y2 d hy2 hn
   rw[hord z hz]at hcz
   by_cases ey:y2=y
   ·subst ey
    rw[eE]at hy2
    cases hy2
    have:=hmax z hz cz hcz
    show cz.cost<=c.cost+w
    omega
   ·rw[iB ey]at hy2
    exact h.mono z hz cz hcz y2 d hy2 hn
  ·intro y2 d hy2
   by_cases ey:y2=y
   ·subst ey
    rw[eE]at hy2
    cases hy2
    exact .inr ⟨k,x,c,w,rfl,rfl,rfl,rfl,hxo,by rw[hord x hxo];exact hx,he,rfl,fun hm=>absurd hm hyo⟩
   ·rw[iB ey]at hy2
    rcases h.by' y2 d hy2 with g|⟨n,z,cz,w',g1,g2,g3,g4,g5,g6,g7⟩
    ·exact .inl g
    ·exact .inr ⟨n,z,cz,w',g1,g2,g3,g4,g5,by rw[hord z g5];exact g6,g7⟩
end
def lX (F:TF) (k:Nat) (s:Int):List Int:=((List.range k).filter fun j=>decide ((F.arcs.getD j EK.arc.dflt).f=s)).map Int.ofNat
def rT (F:TF) (s:Int):List Int:=lX F F.arcs.length s
theorem zF (F:TF) (k:Nat) (s:Int):lX F (k+1) s=lX F k s++if(F.arcs.getD k EK.arc.dflt).f=s then [(k:Int)]else []:=by
 unfold lX
 rw[List.range_succ,List.filter_append,List.map_append]
 congr 1
 by_cases h:(F.arcs.getD k EK.arc.dflt).f=s
 ·rw[if_pos h,List.filter_cons_of_pos (by simpa using h)]
  rfl
 ·rw[if_neg h,List.filter_cons_of_neg (by simpa using h)]
  rfl
theorem vL {F:TF} {k:Nat} {s n:Int}:n∈lX F k s <-> ∃j:Nat,n=j/\j<k/\(F.arcs.getD j EK.arc.dflt).f=s:=by
 unfold lX
 simp only[List.mem_map,List.mem_filter,List.mem_range,decide_eq_true_eq]
 constructor
 ·rintro⟨j,⟨h1,h2⟩,rfl⟩;exact⟨j,rfl,h1,h2⟩
 ·rintro⟨j,rfl,h1,h2⟩;exact⟨j,⟨h1,h2⟩,rfl⟩
theorem Dd (F:TF) (k:Nat) (s:Int):(lX F k s).length<=k:=by
 unfold lX
 rw[List.length_map]
 exact Nat.le_trans (List.length_filter_le _ _) (by rw[List.length_range];exact Nat.le_refl _)
section
variable {F:TF} {u v:List Int}
theorem Dj.weak {D:Trip->Option Fnd} {ord:List Trip} {rk:Trip->Nat} {B B':Int} {Q Q':Trip->Nat->Prop} (h:Dj F u v D ord rk B Q) (hB:B<=B') (hQ: ∀z∈ord,∀n y w,dB F u v z n y w->Q' z n->Q z n):Dj F u v D ord rk B' Q':=
 ⟨h.start,h.rng,h.dn,h.mem,fun y d hy=>⟨(h.cost y d hy).1,Int.le_trans (h.cost y d hy).2 hB⟩,fun z hz c hc n y w hq he=>h.closed z hz c hc n y w (hQ z hz n y w he hq) he,h.mono,h.rkl,h.by'⟩
theorem Dj.on (hF:FOk F) {x:Trip} {c:Fnd} {ord:List Trip} {rk:Trip->Nat} {B:Int} (hxo:x∈ord) (hB:c.cost+1000000000<=B): ∀(ns:List Int) (D:Trip->Option Fnd) (Q:Trip->Nat->Prop),Dj F u v D ord rk B Q->D x=some c->(∀z∈ord,∀d,D z=some d->d.cost<=c.cost)->
  (∀n∈ns,∃j:Nat,n=j/\j<F.arcs.length/\(F.arcs.getD j EK.arc.dflt).f=x.a)->
  Dj F u v (onD F u v x c.cost D ns) ord rk B (fun z n=>Q z n\/(z=x/\(n:Int)∈ns))/\onD F u v x c.cost D ns x=some c
 | [],D,Q,h,hx,hmax,_=>⟨h.weak (Int.le_refl _) (fun z _ n y w _ hq=>by rcases hq with hq|⟨_,hq⟩;exact hq;cases hq),hx⟩
 |n::ns,D,Q,h,hx,hmax,hn=>by
  obtain⟨j,rfl,h1,h2⟩:=hn n (List.mem_cons_self ..)
  have hk:F.arcs[j]?=some (F.arcs.getD j EK.arc.dflt):=by simp[List.getD,h1]
  obtain⟨g1,g2,g3⟩:=h.step hF hx hxo hmax hB hk h2
  obtain⟨g4,g5⟩:=Dj.on hF hxo hB ns _ _ g1 g2 g3 (fun n hn'=>hn n (List.mem_cons_of_mem _ hn'))
  refine⟨g4.weak (Int.le_refl _) (fun z _ n y w _ hq=>?_),g5⟩
  rcases hq with hq|⟨hz,hq⟩
  ·exact .inl (.inl hq)
  ·rcases List.mem_cons.1 hq with hq|hq
   ·exact .inl (.inr ⟨hz,by omega⟩)
   ·exact .inr ⟨hz,hq⟩
theorem Dj.round (hF:FOk F) {D:Trip->Option Fnd} {ord:List Trip} {rk:Trip->Nat} {B B':Int} (h:Dj F u v D ord rk B (fun _ _=>True)) {x:Trip} {c:Fnd} (hx:D x=some c) (hd:c.dn=false) (hmin: ∀y d,D y=some d->d.dn=false->c.cost<=d.cost)
  (hB1:B<=B') (hB:c.cost+1000000000<=B'): ∃rk',Dj F u v (onD F u v x c.cost (Fw.mark D x c) (rT F x.a)) (ord++[x]) rk' B' (fun _ _=>True):=by
 obtain⟨h1,h2⟩:=h.mark hx hd hmin
 have h1':=h1.weak (Q':=fun z _=>z≠x) hB1 (fun _ _ _ _ _ _ h=>h)
 have:=Dj.on hF (c:= {c with dn:=true}) (List.mem_append_right ord (List.mem_singleton.2 rfl)) hB (rT F x.a) _ _ h1' eE h2 (fun n hn=>vL.1 hn)
 refine⟨_,this.1.weak (Int.le_refl _) (fun z hz n y w he _=>?_)⟩
 by_cases e:z=x
 ·subst e
  refine .inr ⟨rfl,?_⟩
  obtain⟨a,g1,g2,_⟩:=he
  have:=(List.getElem?_eq_some_iff.1 g1).1
  exact vL.2 ⟨n,rfl,this,by simp[List.getD,g1,g2]⟩
 ·exact .inl e
def D0 (F:TF):Trip->Option Fnd:=mM (fun _=>none) (st0 F) ⟨0,-1,0,0,0,false⟩
theorem Dj.zero (hF:FOk F):Dj F u v (D0 F) [] (fun _=>0) 0 (fun _ _=>True):=by
 have hs:=hF.start
 have key: ∀y d,D0 F y=some d->y=st0 F/\d=⟨0,-1,0,0,0,false⟩:=by
  intro y d h
  unfold D0 mM at h
  split at h
  ·rename_i e;cases h;exact⟨e,rfl⟩
  ·cases h
 refine⟨⟨_,eE,rfl⟩,?_,?_,?_,?_,?_,?_,?_,?_⟩
 ·intro y d h
  obtain⟨rfl,rfl⟩:=key y d h
  refine⟨hs,⟨Int.le_refl _,?_⟩,⟨Int.le_refl _,?_⟩⟩<;>(simp only[st0];omega)
 ·intro y d h
  obtain⟨rfl,rfl⟩:=key y d h
  simp
 ·intro y h;cases h
 ·intro y d h
  obtain⟨rfl,rfl⟩:=key y d h
  exact⟨Int.le_refl _,Int.le_refl _⟩
 ·intro z h;cases h
 ·intro z h;cases h
 ·intro z h;cases h
 ·intro y d h
  obtain⟨rfl,rfl⟩:=key y d h
  exact .inl ⟨rfl,rfl,rfl⟩
inductive Reach (F:TF) (u v:List Int) (S:Trip->Int->Prop):Int->Trip->Prop
 |here {x:Trip} {c:Int} (h:S x c):Reach F u v S c x
 |on {x y:Trip} {c w:Int} {n:Nat} (h:Reach F u v S c x) (he:dB F u v x n y w):Reach F u v S (c+w) y
structure qQ (F:TF) (u v:List Int) (S:Trip->Int->Prop) (A:Trip->Option Int):Prop where
 path: ∀y c,A y=some c->Reach F u v S c y
 least: ∀c y,Reach F u v S c y-> ∃c',A y=some c'/\c'<=c
def gX (F:TF):Trip->Int->Prop:=fun x c=>x=st0 F/\c=0
theorem Dj.least {D:Trip->Option Fnd} {ord:List Trip} {rk:Trip->Nat} {B:Int} (h:Dj F u v D ord rk B (fun _ _=>True)) (hall: ∀y d,D y=some d->d.dn=true):qQ F u v (gX F) (fun y=>(D y).map (·.cost)):=by
 have hm: ∀y d,D y=some d->y∈ord:=fun y d hy=>(h.dn y d hy).1 (hall y d hy)
 constructor
 ·have: ∀(k:Nat) (y:Trip) (d:Fnd),rk y<k->D y=some d->Reach F u v (gX F) d.cost y:=by
   intro k
   induction k with
   |zero=>intro y d hk;omega
   |succ k ih=>
    intro y d hk hy
    rcases h.by' y d hy with⟨g1,g2,_⟩|⟨n,z,cz,w,_,_,_,_,g5,g6,g7,g8,g9⟩
    ·exact .here ⟨g1,g2⟩
    ·rw[g8]
     exact .on (ih z cz (by have:=g9 (hm y d hy);omega) g6) g7
  intro y c hy
  obtain⟨d,hd,rfl⟩:=Option.map_eq_some_iff.1 hy
  exact this (rk y+1) y d (Nat.lt_succ_self _) hd
 ·intro c y hr
  induction hr with
  |here hs=>
   obtain⟨rfl,rfl⟩:=hs
   obtain⟨c0,h1,h2⟩:=h.start
   exact⟨c0.cost,by simp[h1],by omega⟩
  |on hr he ih=>
   obtain⟨c',h1,h2⟩:=ih
   obtain⟨d,h3,rfl⟩:=Option.map_eq_some_iff.1 h1
   obtain⟨e,h4,h5⟩:=h.closed _ (hm _ d h3) d h3 _ _ _ trivial he
   exact⟨e.cost,by simp[h4],by omega⟩
end
def dU (F:TF) (u v:List Int):List Trip:=(List.range F.st.toNat).flatMap fun(s:Nat)=>(List.range (u.length+1)).flatMap fun(i:Nat)=>(List.range (v.length+1)).map fun(o:Nat)=>(⟨(s:Int),(i:Int),(o:Int)⟩:Trip)
theorem eL {α β:Type} {f:α->List β} {n:Nat}: ∀ {l:List α},(∀x∈l,(f x).length=n)->(l.flatMap f).length=l.length*n
 | [],_=>by simp
 |x::l,h=>by
  rw[List.flatMap_cons,List.length_append,h x (List.mem_cons_self ..),eL (fun y hy=>h y (List.mem_cons_of_mem _ hy)),List.length_cons,Nat.add_mul]
  omega
theorem Hn (F:TF) (u v:List Int):(dU F u v).length=F.st.toNat*((u.length+1)*(v.length+1)):=by
 unfold dU
 rw[eL (n:=(u.length+1)*(v.length+1)),List.length_range]
 intro s _
 rw[eL (n:=v.length+1),List.length_range]
 intro i _
 simp
theorem Ln {F:TF} {u v:List Int} (hF:FOk F) (hu:u.length<=40) (hv:v.length<=40):(dU F u v).length<=336200:=by
 rw[Hn]
 have h1:F.st.toNat<=200:=by have:=hF.st;omega
 have h2:(u.length+1)*(v.length+1)<=41*41:=Nat.mul_le_mul (by omega) (by omega)
 exact Nat.le_trans (Nat.mul_le_mul h1 h2) (by decide)
theorem Hm {F:TF} {u v:List Int} {x:Trip} (h:Ex F u v x):x∈dU F u v:=by
 obtain⟨⟨h1,h2⟩,⟨h3,h4⟩,⟨h5,h6⟩⟩:=h
 unfold dU
 simp only[List.mem_flatMap,List.mem_map,List.mem_range]
 refine⟨x.a.toNat,by omega,x.b.toNat,by omega,x.c.toNat,by omega,?_⟩
 obtain⟨a,b,c⟩:=x
 simp only at*
 congr 1<;>omega
def und (F:TF) (u v:List Int) (ord:List Trip):Nat:=((dU F u v).filter fun x=>decide (x∉ord)).length
theorem aCu {F:TF} {u v:List Int} {ord:List Trip} {x:Trip} (hx:x∈dU F u v) (hn:x∉ord):und F u v (ord++[x])<und F u v ord:=by
 unfold und
 have h:((dU F u v).filter fun y=>decide (y∉ord++[x]))=((dU F u v).filter fun y=>decide (y∉ord)).filter fun y=>decide (y≠x):=by
  rw[List.filter_filter]
  congr 1
  funext c
  by_cases h1:c∈ord<;>by_cases h2:c=x<;>simp[h1,h2]
 rw[h]
 refine Nat.lt_of_le_of_ne (List.length_filter_le _ _) (fun c=>?_)
 have:=(List.length_filter_eq_length_iff.1 c) x (List.mem_filter.2 ⟨hx,by simpa using hn⟩)
 simp at this
theorem Md (F:TF) (u v:List Int) (ord:List Trip):und F u v ord<=(dU F u v).length:=List.length_filter_le _ _
structure Hq (F:TF) (rows:List Sli) (pi:List (Addr×List Int×Nat)):Prop where
 len:rows.length=F.st.toNat
 row: ∀s:Nat,s<F.st.toNat->(rows.getD s EK.sli.dflt).n=(rT F s).length/\aM pi (rows.getD s EK.sli.dflt).a=rT F s
section
variable {es:List (Trip×Option Addr×Nat)} {clk:Nat} {pf:List (Addr×List Fnd×Nat)}
theorem xU {a:Addr} {f e:Fnd} (h:lkA pf a=some ([f],0)) (b:Addr):lkA (mR pf (some a) 0 e) b=if b=a then some ([e],0)else lkA pf b:=by
 simp only[mR,h,List.set_cons_zero]
 rw[fC]
 by_cases hb:b=a
 ·subst hb;simp[h]
 ·simp only[hb,if_false]
  cases lkA pf b<;>rfl
theorem bT.put (hm:bT es clk pf) {x:Trip} {a:Addr} {n:Nat} {f e:Fnd} (hx:(x,some a,n)∈es) (ha:lkA pf a=some ([f],0)):
  bT es clk (mR pf (some a) 0 e)/\bH es (mR pf (some a) 0 e)=mM (bH es pf) x e/\lkA (mR pf (some a) 0 e) a=some ([e],0):=by
 refine⟨⟨hm.born,hm.keys,hm.adrs,?_⟩,?_,by rw[xU ha,if_pos rfl]⟩
 ·intro c hc
  obtain⟨b,g,h1,h2⟩:=hm.row c hc
  refine⟨b,?_⟩
  rw[xU ha]
  by_cases hb:b=a
  ·exact⟨e,h1,by rw[if_pos hb]⟩
  ·exact⟨g,h1,by rw[if_neg hb];exact h2⟩
 ·funext z
  show(lkM es z).bind _=mM (bH es pf) x e z
  unfold mM
  by_cases hz:z=x
  ·subst hz
   rw[if_pos rfl,show lkM es z=some (some a)from Gi hm.keys hx]
   simp[aM,xU ha]
  ·rw[if_neg hz]
   show _=(lkM es z).bind _
   cases hl:lkM es z with
   |none=>rfl
   |some oa=>
    obtain⟨m,hm2⟩:=tU hl
    have hne:oa≠some a:=by
     intro c
     subst c
     have:(z,some a,m)=(x,some a,n):=by
      have hnd:=hm.adrs
      have h1:=List.getElem_of_mem hx
      have h2:=List.getElem_of_mem hm2
      obtain⟨i,hi,e1⟩:=h1
      obtain⟨j,hj,e2⟩:=h2
      have:i=j:=by
       refine(List.getElem_inj (h₀:=by simpa using hi) (h₁:=by simpa using hj) hnd).1 ?_
       simp[e1,e2]
      subst this
      rw[<-e1,<-e2]
     exact hz (congrArg (·.1) this)
    cases oa with
    |none=>rfl
    |some b=>
     have hb:b≠a:=fun c=>hne (by rw[c])
     simp only[Option.bind_some,aM,xU ha,if_neg hb]
theorem bT.all (hm:bT es clk pf) {best:Trip} (h:Nst es pf (es.map (·.2.2)) best false): ∀y d,bH es pf y=some d->d.dn=true:=by
 intro y d hy
 obtain⟨a,n,h1,_⟩:=hm.of hy
 rcases h with⟨_,h⟩|⟨h,_⟩
 ·exact h _ h1 (List.mem_map_of_mem (f:=fun e:Trip×Option Addr×Nat=>e.2.2) h1) d hy
 ·cases h
theorem bT.near (hm:bT es clk pf) {best:Trip} (h:Nst es pf (es.map (·.2.2)) best true): ∃c,bH es pf best=some c/\c.dn=false/\ ∀y d,bH es pf y=some d->d.dn=false->c.cost<=d.cost:=by
 rcases h with⟨h,_⟩|⟨_,c,h1,h2,h3⟩
 ·cases h
 ·refine⟨c,h1,h2,fun y d hy hd=>?_⟩
  obtain⟨a,n,g1,_⟩:=hm.of hy
  exact h3 _ g1 (List.mem_map_of_mem (f:=fun e:Trip×Option Addr×Nat=>e.2.2) g1) d hy hd
end
theorem bT.zero (F:TF) {a:Addr}:bT [(st0 F,some a,0)] 1 [(a,[⟨0,-1,0,0,0,false⟩],0)]/\bH [(st0 F,some a,0)] [(a,[⟨0,-1,0,0,0,false⟩],0)]=D0 F:=by
 constructor
 ·exact⟨⟨by simp,by simp⟩,by simp,by simp,by simp[lkA]⟩
 ·funext z
  unfold bH D0 mM
  by_cases h:z=st0 F
  ·simp[lkM,aM,lkA,h]
  ·simp[lkM,h,Ne.symm h]
abbrev hpR (W:Wk) (es:List (Trip×Option Addr×Nat)) (clk:Nat) (pf:List (Addr×List Fnd×Nat)):List (Nat×SO):= [(0,.box 101 [.i W.F.st,.i W.F.start,.sl 1 1 0 W.F.fin.length W.F.capF,.sl 2 5 0 W.F.arcs.length W.F.capA,.sl 3 1 0 W.u.length W.cu,.sl 4 1 0 W.v.length W.cv,.sl 5 1 0 W.rows.length W.rows.length,.mp 8]),(1,.arr false 3 .int W.F.fin 0),(2,.arr false 55 .arc W.F.arcs 0),(3,.arr false 3 .int W.u 0),(4,.arr false 3 .int W.v 0),
 (5,.arr true 22 .sli W.rows 0),(6,.pool 3 .int W.pi),(7,.pool 103 .fnd pf),(8,.map .trip .adr es clk)]
abbrev hpS (W:Wk):List (Nat×SO):= [(0,.box 101 [.i W.F.st,.i W.F.start,.sl 1 1 0 W.F.fin.length W.F.capF,.sl 2 5 0 W.F.arcs.length W.F.capA,.sl 3 1 0 W.u.length W.cu,.sl 4 1 0 W.v.length W.cv,.sl 5 1 0 W.rows.length W.rows.length,.v (.map none)]),(1,.arr false 3 .int W.F.fin 0),(2,.arr false 55 .arc W.F.arcs 0),(3,.arr false 3 .int W.u 0),(4,.arr false 3 .int W.v 0),
 (5,.arr true 22 .sli W.rows 0),(6,.pool 3 .int W.pi),(7,.pool 103 .fnd [])]
def aD7 (W:Wk) (y:List (Trip×Option Addr×Nat)×Nat×List (Addr×List Fnd×Nat)×List Trip):Prop:=
 bT y.1 y.2.1 y.2.2.1/\y.2.2.2.length+und W.F W.u W.v y.2.2.2<=(dU W.F W.u W.v).length/\ ∃rk,Dj W.F W.u W.v (bH y.1 y.2.2.1) y.2.2.2 rk (1000000000*(((dU W.F W.u W.v).length:Int)-und W.F W.u W.v y.2.2.2)) (fun _ _=>True)
def Ran (W:Wk) (es:List (Trip×Option Addr×Nat)) (clk:Nat) (pf:List (Addr×List Fnd×Nat)):Prop:=
 bT es clk pf/\ ∃ord rk B,ord.length<=336200/\Dj W.F W.u W.v (bH es pf) ord rk B (fun _ _=>True)/\B<=1000000000000000/\ ∀y d,bH es pf y=some d->d.dn=true
theorem Ue (W:Wk) {es:List (Trip×Option Addr×Nat)} {clk:Nat} {pf:List (Addr×List Fnd×Nat)} (hm:bT es clk pf):Ct Tryz.prog 141 [.c (.ptr 0 0)] [] (hpL W es clk pf) 9 (fun v s=> ∃best any,v= .tup [.agg [.i best.a,.i best.b,.i best.c],.c (.b any)]/\s=⟨[],[(0,.box 101 [.i W.F.st,.i W.F.start,.sl 1 1 0 W.F.fin.length W.F.capF,.sl 2 5 0 W.F.arcs.length W.F.capA,.sl 3 1 0 W.u.length W.cu,.sl 4 1 0 W.v.length W.cv,.sl 5 1 0 W.rows.length W.rows.length,.mp 7]),(5,.arr true 22 .sli W.rows 0),(6,.pool 3 .int W.pi),(7,.map .trip .adr es clk),(8,.pool 103 .fnd pf)],9⟩/\Nst es pf (es.map (·.2.2)) best any):=
 Uf {W with es:=es,clk:=clk,pf:=pf} hm
theorem aD4 (W:Wk) {es:List (Trip×Option Addr×Nat)} {clk:Nat} {pf:List (Addr×List Fnd×Nat)} (hF:FOk W.F) (hu:W.u.length<=40) (hv:W.v.length<=40) (hr:Hq W.F W.rows W.pi) (x:Trip) (a:Addr) (c:Fnd) (hm:bT es clk pf) (ha:lkA pf a=some ([c],0)) (hc:0<=c.cost/\c.cost<=1000000000000000000) (hx:Ex W.F W.u W.v x):
  Ct Tryz.prog 142 [.c (.ptr 0 0),SV.a (SA.agg [SC.i (Trip.a x),SC.i (Trip.b x),SC.i (Trip.c x)]),.c (.q (some a))] [] (hpL W es clk pf) 9 (fun v s=> ∃es' clk' pf',v= .tup []/\s=⟨[],[(0,.box 101 [.i W.F.st,.i W.F.start,.sl 1 1 0 W.F.fin.length W.F.capF,.sl 2 5 0 W.F.arcs.length W.F.capA,.sl 3 1 0 W.u.length W.cu,.sl 4 1 0 W.v.length W.cv,.sl 5 1 0 W.rows.length W.rows.length,.mp 7]),(5,.arr true 22 .sli W.rows 0),(6,.pool 3 .int W.pi),(7,.map .trip .adr es' clk'),(8,.pool 103 .fnd pf')],9⟩/\bT es' clk' pf'/\lkA pf' a=some ([c],0)/\bH es' pf'=onD W.F W.u W.v x c.cost (bH es pf) (rT W.F x.a)):=by
 obtain⟨⟨h1,h2⟩,h3,h4⟩:=hx
 have hst:=hF.st
 have hlen:=hr.len
 have hal:=hF.arcl
 have hrow:=hr.row x.a.toNat (by omega)
 rw[Int.toNat_of_nonneg h1]at hrow
 have hnl:(rT W.F x.a).length<=W.F.arcs.length:=Dd W.F W.F.arcs.length x.a
 exact aDD {W with es:=es,clk:=clk,pf:=pf} hF hu hv x a c hm ha hc (by show 0<=x.a/\x.a<W.rows.length;omega) h3 h4 _ rfl (rT W.F x.a) hrow.2 hrow.1 (by omega) (fun n hn=>by
  obtain⟨j,rfl,g1,g2⟩:=vL.1 hn
  exact⟨by omega,by show(j:Int)<(W.F.arcs.length:Int);omega⟩)
theorem aDy (W:Wk) (hF:FOk W.F) (hu:W.u.length<=40) (hv:W.v.length<=40) (hr:Hq W.F W.rows W.pi):
  Ct Tryz.prog 119 [.c (.ptr 0 0)] [] (hpS W) 8 (fun v s=> ∃es clk pf,v= .tup []/\s=⟨[],[(0,.box 101 [.i W.F.st,.i W.F.start,.sl 1 1 0 W.F.fin.length W.F.capF,.sl 2 5 0 W.F.arcs.length W.F.capA,.sl 3 1 0 W.u.length W.cu,.sl 4 1 0 W.v.length W.cv,.sl 5 1 0 W.rows.length W.rows.length,.mp 8]),(5,.arr true 22 .sli W.rows 0),(6,.pool 3 .int W.pi),(7,.pool 103 .fnd pf),(8,.map .trip .adr es clk)],9⟩/\Ran W es clk pf):=by
 have hsp:=Ln hF hu hv
 have hst:=hF.st
 have hlen:=hr.len
 have hal:=hF.arcl
 refine ctW Tryz.tyOk 5 [] Tryz.func119 rfl (by simp) (by simp) (fr:= [(0,.c (.ptr 0 0))]) rfl ?_
 refine gO ?_
 intro a0 ha0 hb0
 refine gO ?_
 have hz:=bT.zero W.F (a:=a0)
 refine aJ (fun y:List (Trip×Option Addr×Nat)×Nat×List (Addr×List Fnd×Nat)×List Trip=>⟨[(0,.c (.ptr 0 0))],hpR W y.1 y.2.1 y.2.2.1,9⟩) (aD7 W) (fun y=>und W.F W.u W.v y.2.2.2) ([(st0 W.F,some a0,0)],1,[(a0,[⟨0,-1,0,0,0,false⟩],0)],[]) [] ⟨by rfl,?_,?_⟩ ⟨hz.1,by simp only[List.length_nil,Nat.zero_add];exact Md _ _ _ _,fun _=>0,?_⟩ ?_
 ·simp
 ·simp
  exact⟨rfl,rfl⟩
 ·simp only
  rw[hz.2]
  refine(Dj.zero hF).weak ?_ (fun _ _ _ _ _ _ h=>h)
  have:=Md W.F W.u W.v []
  omega
 ·rintro⟨es,clk,pf,ord⟩ ⟨hm,hol,rk,hD⟩
  simp only at hm hol hD⊢
  (conv=>whnf)
  refine cF (Ue W hm) [0,1,2,3,4,5,6,8,7] Tryz.call141 ?_
  rintro _ _ ⟨⟨b1,b2,b3⟩,any,rfl,rfl,hN⟩
  simp only at hN⊢
  cases any with
  |false=>
   have hall:=hm.all hN
   refine gO ?_
   exact⟨[],[(0,.box 101 [.i W.F.st,.i W.F.start,.sl 1 1 0 W.F.fin.length W.F.capF,.sl 2 5 0 W.F.arcs.length W.F.capA,.sl 3 1 0 W.u.length W.cu,.sl 4 1 0 W.v.length W.cv,.sl 5 1 0 W.rows.length W.rows.length,.mp 8]),(5,.arr true 22 .sli W.rows 0),(6,.pool 3 .int W.pi),(7,.pool 103 .fnd pf),(8,.map .trip .adr es clk)],9,.tup [],⟨by rfl,trivial,by simp⟩,by simp,es,clk,pf,rfl,rfl,hm,ord,rk,_,by omega,hD,by omega,hall⟩
  |true=>
   obtain⟨c,hc,hcd,hmin⟩:=hm.near hN
   obtain⟨a,n,r1,r2,r3,r4⟩:=hm.of hc
   have e1:(@lkM EK.trip.ty EK.adr.ty (EK.instDeq .trip) es (⟨b1,b2,b3⟩:Trip)).getD EK.adr.dflt=some a:=congrArg (fun x=>Option.getD x none) r3
   have ec:(aM pf (some a)).getD 0 EK.fnd.dflt=c:=by rw[r4];rfl
   obtain⟨p1,p2,p3⟩:=hm.put (e:= {c with dn:=true}) r1 r2
   have hcc:=hD.cost _ _ hc
   have hbox:=hD.rng _ _ hc
   have hxo:(⟨b1,b2,b3⟩:Trip)∉ord:=fun hmm=>by have:=(hD.dn _ _ hc).2 hmm;rw[hcd]at this;cases this
   have hul:=aCu (Hm hbox) hxo
   have hule:=Md W.F W.u W.v ord
   refine gO ?_
   refine⟨?_,?_,?_,?_⟩
   ·rw[e1];rfl
   ·rw[e1,r4];exact Nat.one_pos
   ·rw[e1,r4];exact Nat.one_pos
   (conv=>whnf)
   rw[e1,ec]
   have hon:=aD4 W hF hu hv hr ⟨b1,b2,b3⟩ a {c with dn:=true} p1 p3 (by simp only;omega) hbox
   refine cF (hon) [0,1,2,3,4,5,6,8,7] Tryz.call142 ?_
   rintro _ _ ⟨es2,clk2,pf2,rfl,rfl,q1,q2,q3⟩
   (conv=>whnf)
   rw[p2]at q3
   obtain⟨rk2,hD2⟩:=hD.round hF (B':=1000000000*(((dU W.F W.u W.v).length:Int)-und W.F W.u W.v (ord++[⟨b1,b2,b3⟩]))) hc hcd hmin (by omega) (by omega)
   refine⟨(es2,clk2,pf2,ord++[⟨b1,b2,b3⟩]),[],⟨by rfl,?_,?_⟩,⟨q1,by simp only[List.length_append,List.length_cons,List.length_nil];omega,rk2,?_⟩,hul⟩
   ·simp
   ·simp
   ·rw[q3]
    exact hD2
def bJ (D:Trip->Option Int) (fin:List Int) (p q:Int):Nat->Trip×Int
 |0=>(⟨0,0,0⟩,-1)
 |k+1=>match D ⟨k,p,q⟩with
  |none=>bJ D fin p q k
  |some d=>if fin.getD k 0≠ -1/\((bJ D fin p q k).2= -1\/d+fin.getD k 0<(bJ D fin p q k).2)then(⟨k,p,q⟩,d+fin.getD k 0)else bJ D fin p q k
theorem gZ {D:Trip->Option Int} {fin:List Int} {p q:Int} {k:Nat} (h:D ⟨k,p,q⟩=none):bJ D fin p q (k+1)=bJ D fin p q k:=by simp[bJ,h]
theorem mE {D:Trip->Option Int} {fin:List Int} {p q:Int} {k:Nat} {d:Int} (h:D ⟨k,p,q⟩=some d) (h1:fin.getD k 0≠ -1) (h2:(bJ D fin p q k).2= -1\/d+fin.getD k 0<(bJ D fin p q k).2):bJ D fin p q (k+1)=(⟨k,p,q⟩,d+fin.getD k 0):=by
 simp only[bJ,h]
 exact if_pos ⟨h1,h2⟩
theorem mX {D:Trip->Option Int} {fin:List Int} {p q:Int} {k:Nat} {d:Int} (h:D ⟨k,p,q⟩=some d) (h2:fin.getD k 0= -1\/((bJ D fin p q k).2≠ -1/\ ¬d+fin.getD k 0<(bJ D fin p q k).2)):bJ D fin p q (k+1)=bJ D fin p q k:=by
 simp only[bJ,h]
 refine if_neg (fun c=>?_)
 rcases h2 with h2|h2
 ·exact c.1 h2
 ·rcases c.2 with c|c
  ·exact h2.1 c
  ·exact h2.2 c
abbrev cW (es:List (Trip×Option Addr×Nat)) (pf:List (Addr×List Fnd×Nat)):Trip->Option Int:=fun y=>(bH es pf y).map (·.cost)
theorem aDN (W:Wk) (hF:FOk W.F) (hu:W.u.length<=40) (hv:W.v.length<=40) (es:List (Trip×Option Addr×Nat)) (clk:Nat) (pf:List (Addr×List Fnd×Nat)) (hm:bT es clk pf) (hb: ∀y d,bH es pf y=some d->0<=d.cost/\d.cost<=1000000000000000):
  Ct Tryz.prog 120 [.c (.ptr 0 0)] [] (hpL W es clk pf) 9 (fun v s=>v= .tup [.agg [.i (bJ (cW es pf) W.F.fin W.u.length W.v.length W.F.fin.length).1.a,.i (bJ (cW es pf) W.F.fin W.u.length W.v.length W.F.fin.length).1.b,.i (bJ (cW es pf) W.F.fin W.u.length W.v.length W.F.fin.length).1.c],.c (.i (bJ (cW es pf) W.F.fin W.u.length W.v.length W.F.fin.length).2)]/\
   s=⟨[],[(0,.box 101 [.i W.F.st,.i W.F.start,.sl 1 1 0 W.F.fin.length W.F.capF,.sl 2 5 0 W.F.arcs.length W.F.capA,.sl 3 1 0 W.u.length W.cu,.sl 4 1 0 W.v.length W.cv,.sl 5 1 0 W.rows.length W.rows.length,.mp 7]),(5,.arr true 22 .sli W.rows 0),(6,.pool 3 .int W.pi),(7,.map .trip .adr es clk),(8,.pool 103 .fnd pf)],9⟩):=by
 have hst:=hF.st
 have hfl:=hF.finl
 have hD: ∀y d,cW es pf y=some d->0<=d/\d<=1000000000000000:=by
  intro y d h
  obtain⟨e,h1,rfl⟩:=Option.map_eq_some_iff.1 h
  exact hb y e h1
 generalize hDD:cW es pf=D at*
 refine ctW Tryz.tyOk 11 [16,17,18] Tryz.func120 rfl (by simp) (by simp) (fr:= [(0,.c (.ptr 0 0))]) rfl ?_
 refine gO ?_
 refine aJ (fun k:Nat=>⟨[(0,.c (.ptr 0 0)),(2,.c (.ptr 9 0)),(4,.c (.ptr 10 0)),(5,.i (bJ D W.F.fin W.u.length W.v.length k).2),(16,.c (.sl 1 1 0 W.F.fin.length W.F.capF)),(17,.i W.F.fin.length),(18,.i k)],(9,.box 94 [.i 0,.i 0,.i 0])::(10,.box 94 [.i (bJ D W.F.fin W.u.length W.v.length k).1.a,.i (bJ D W.F.fin W.u.length W.v.length k).1.b,.i (bJ D W.F.fin W.u.length W.v.length k).1.c])::hpL W es clk pf,11⟩)
  (fun k=>k<=W.F.fin.length) (fun k=>W.F.fin.length-k) 0 [] ⟨by rfl,?_,?_⟩ (by omega) ?_
 ·simp[bJ]
 ·simp[bJ]
 ·intro k hk
  have e0:0+(k:Int).toNat=k:=by omega
  have ef:W.F.fin.getD (0+(k:Int).toNat) EK.int.dflt=W.F.fin.getD k 0:=by rw[e0];rfl
  (conv=>whnf)
  refine aG (fun hk2=>?_) (fun hk2=>?_)
  ·have hf:=hF.fin _ (aB W.F.fin k 0 (by omega))
   rw[<-ef]at hf
   cases hx:(bH es pf ⟨k,W.u.length,W.v.length⟩)with
   |none=>
    have hsn: ¬(@lkM EK.trip.ty EK.adr.ty (EK.instDeq .trip) es (⟨k,W.u.length,W.v.length⟩:Trip)).isSome=true:=by
     intro hh
     obtain⟨b,d,g1,g2,g3⟩:=hm.get (y:=⟨k,W.u.length,W.v.length⟩) (by rw[hh];rfl)
     rw[hx]at g3
     cases g3
    have e:=gZ (D:=D) (fin:=W.F.fin) (k:=k) (p:=W.u.length) (q:=W.v.length) (by rw[<-hDD];simp[cW,hx])
    refine gO fun h=>?_
    all_goals first|exact absurd (by assumption) hsn|skip
    all_goals (conv=>whnf)
    all_goals refine⟨k+1,[],⟨by rfl,?_,?_⟩,by omega,by omega⟩
    ·simp[e]
    ·simp[e]
   |some d=>
    have hs:(@lkM EK.trip.ty EK.adr.ty (EK.instDeq .trip) es (⟨k,W.u.length,W.v.length⟩:Trip)).isSome=true:=by
     cases hh:(@lkM EK.trip.ty EK.adr.ty (EK.instDeq .trip) es (⟨k,W.u.length,W.v.length⟩:Trip)).isSome with
     |true=>rfl
     |false=>
      have:=bT.none (es:=es) (pf:=pf) (y:=⟨k,W.u.length,W.v.length⟩) (by rw[hh];rfl)
      rw[hx]at this
      cases this
    obtain⟨b,d',g1,g2,g3⟩:=hm.get (y:=⟨k,W.u.length,W.v.length⟩) (by rw[hs];rfl)
    rw[hx]at g3
    cases g3
    have gd:(aM pf (some b)).getD 0 EK.fnd.dflt=d:=by rw[g2];rfl
    have hdb:=hb _ _ hx
    have hDk:D ⟨k,W.u.length,W.v.length⟩=some d.cost:=by rw[<-hDD];simp[cW,hx]
    refine gO ?_
    refine⟨fun h=>⟨fun h=>⟨fun h=>⟨?_,?_,?_,?_,?_,?_⟩,fun h=>⟨?_,?_,?_,?_,fun h=>⟨?_,?_,?_,?_,?_,?_⟩,fun h=>?_⟩⟩,fun h=>?_⟩,fun h=>?_⟩
    all_goals first|exact absurd hs (Bool.eq_false_iff.1 (by assumption))|skip
    all_goals first|(rw[g1];rfl)|(rw[g1,g2];exact Nat.one_pos)|(rw[g1,gd];unfold InI;omega)|skip
    ·have e:=mE hDk (by rw[<-ef];assumption) (.inl (by assumption))
     (conv=>whnf)
     refine⟨k+1,[],⟨by rfl,?_,?_⟩,by omega,by omega⟩
     ·simp[e,g1,g2]
      exact rfl
     ·simp[e]
    ·rename_i hh
     rw[g1,gd,ef]at h
     have e:=mE hDk (by rw[<-ef];assumption) (.inr h)
     (conv=>whnf)
     refine⟨k+1,[],⟨by rfl,?_,?_⟩,by omega,by omega⟩
     ·simp[e,g1,g2]
      exact rfl
     ·simp[e]
    ·rename_i hh
     rw[g1,gd,ef]at h
     have e:=mX hDk (.inr ⟨hh,h⟩)
     (conv=>whnf)
     refine⟨k+1,[],⟨by rfl,?_,?_⟩,by omega,by omega⟩
     ·simp[e,g1,gd,ef]
     ·simp[e,g1,gd,ef]
    ·rw[ef]at h
     have e:=mX hDk (.inl h)
     (conv=>whnf)
     refine⟨k+1,[],⟨by rfl,?_,?_⟩,by omega,by omega⟩
     ·simp[e,g1,gd,ef]
     ·simp[e,g1,gd,ef]
  ·have hkn:k=W.F.fin.length:=by omega
   subst hkn
   refine gO ?_
   exact⟨[],[(0,.box 101 [.i W.F.st,.i W.F.start,.sl 1 1 0 W.F.fin.length W.F.capF,.sl 2 5 0 W.F.arcs.length W.F.capA,.sl 3 1 0 W.u.length W.cu,.sl 4 1 0 W.v.length W.cv,.sl 5 1 0 W.rows.length W.rows.length,.mp 7]),(5,.arr true 22 .sli W.rows 0),(6,.pool 3 .int W.pi),(7,.map .trip .adr es clk),(8,.pool 103 .fnd pf)],9,.tup [.agg [.i (bJ D W.F.fin W.u.length W.v.length W.F.fin.length).1.a,.i (bJ D W.F.fin W.u.length W.v.length W.F.fin.length).1.b,.i (bJ D W.F.fin W.u.length W.v.length W.F.fin.length).1.c],.c (.i (bJ D W.F.fin W.u.length W.v.length W.F.fin.length).2)],⟨by rfl,trivial,by simp⟩,by simp,rfl,rfl⟩
end Go.Fw
