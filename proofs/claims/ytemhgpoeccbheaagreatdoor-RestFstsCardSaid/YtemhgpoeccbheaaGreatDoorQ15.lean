/-
  One way for each word: what is made costs the same for each word.
-/
import Derived.Test.YtemhgpoeccbheaaGreatDoorQ14
import Derived.Test.YtemhgpoeccbheaaGreatDoorQ06
import Derived.Test.YtemhgpoeccbheaaGreatDoorQ12
import Derived.Test.YtemhgpoeccbheaaGreatDoorQ07
import Derived.Test.YtemhgpoeccbheaaGreatDoorQ13
import Derived.Test.YtemhgpoeccbheaaGreatDoorQ08
import Derived.Test.YtemhgpoeccbheaaGreatDoorQ09
import Derived.Test.YtemhgpoeccbheaaGreatDoorQ11
set_option linter.unusedSimpArgs false
set_option linter.unusedVariables false
set_option maxRecDepth 100000
set_option maxHeartbeats 16000000
namespace Go.Fw
def qT (U:TF) (L:List (List Duo)) (j:Nat) (x:Int):Arc:=⟨(j:Int),x,x,((L.idxOf (sbS U (L.getD j []) x):Nat):Int),sbB U (L.getD j []) x⟩
structure RI (U:TF) (i:Nat) (c:Int) (st:DS):Prop where
 l0:st.1.getD 0 []=[⟨U.start,0⟩]
 len:1<=st.1.length
 snd: ∀a∈st.2,∃(j:Nat) (x:Int),(j<i\/j=i/\x<c)/\(1<=x/\x<=9)/\j<st.1.length/\sbB U (st.1.getD j []) x≠ -1/\sbS U (st.1.getD j []) x∈st.1/\a=qT U st.1 j x
 cpl: ∀(j:Nat) (x:Int),(j<i\/j=i/\x<c)->1<=x->x<=9->j<st.1.length->sbB U (st.1.getD j []) x≠ -1->qT U st.1 j x∈st.2
 srt:Srt st.2
 rch: ∀j,j<st.1.length-> ∃w d,RdW st.2 0 w (j:Int) d
theorem RdW.mono {L M:List Arc} (hLM: ∀a∈L,a∈M) {s t c:Int} {u:List Int} (h:RdW L s u t c):RdW M s u t c:=by
 induction h with
 |nil s=>exact .nil s
 |cons ha h ih=>exact .cons (hLM _ ha) ih
theorem Nt {L:List (List Duo)} {s:List Duo} (h:s∈L):L.getD (L.idxOf s) []=s:=by
 have h1:=List.idxOf_lt_length_of_mem h
 simp only[List.getD,List.getElem?_eq_getElem h1,Option.getD_some]
 exact List.getElem_idxOf h1
theorem Yx (L:List (List Duo)) (s:List Duo): ∃M,dV L s=L++M:=by
 unfold dV
 split
 ·exact⟨[],by simp⟩
 ·exact⟨[s],rfl⟩
theorem aAy {U:TF} {L M:List (List Duo)} {j:Nat} {x:Int} (hj:j<L.length) (hs:sbS U (L.getD j []) x∈L):qT U (L++M) j x=qT U L j x:=by
 have e:(L++M).getD j []=L.getD j []:=by simp only[List.getD];rw[List.getElem?_append_left hj]
 unfold qT
 rw[e,pE hs]
theorem RI.start (U:TF):RI U 0 1 (bN U 0):=by
 refine⟨rfl,by simp[bN],fun a ha=>by simp[bN]at ha,fun j x h h1 h2 hj hb=>by omega,List.Pairwise.nil,fun j hj=>?_⟩
 simp only[bN,List.length_cons,List.length_nil]at hj
 have:j=0:=by omega
 subst this
 exact⟨[],0,.nil _⟩
theorem RI.skip {U:TF} {i:Nat} {c:Int} {st:DS} (h:RI U i c st) (hb:sbB U (st.1.getD i []) c= -1):RI U i (c+1) st:=
 {h with
  snd:=fun a ha=>by
   obtain⟨j,x,h1,h2⟩:=h.snd a ha
   exact⟨j,x,by omega,h2⟩
  cpl:=fun j x h1 h2 h3 h4 h5=>by
   by_cases e:j=i/\x=c
   ·rw[e.1,e.2]at h5;exact absurd hb h5
   ·exact h.cpl j x (by omega) h2 h3 h4 h5}
theorem RI.next {U:TF} {i:Nat} {st:DS} (h:RI U i 10 st):RI U (i+1) 1 st:=
 {h with
  snd:=fun a ha=>by
   obtain⟨j,x,h1,h2⟩:=h.snd a ha
   exact⟨j,x,by omega,h2⟩
  cpl:=fun j x h1 h2 h3 h4 h5=>h.cpl j x (by omega) h2 h3 h4 h5}
theorem RI.push {U:TF} {i:Nat} {c:Int} {st:DS} (h:RI U i c st) (hi:i<st.1.length) (hc:1<=c/\c<=9) (hb:sbB U (st.1.getD i []) c≠ -1):
  RI U i (c+1) (dV st.1 (sbS U (st.1.getD i []) c),st.2++[qT U (dV st.1 (sbS U (st.1.getD i []) c)) i c]):=by
 obtain⟨L,raw⟩:=st
 simp only at hi hb⊢
 have hmem:sbS U (L.getD i []) c∈dV L (sbS U (L.getD i []) c):=Jd
 have hlen:=tQ L (sbS U (L.getD i []) c)
 have hcase:dV L (sbS U (L.getD i []) c)=L\/dV L (sbS U (L.getD i []) c)=L++[sbS U (L.getD i []) c]:=by unfold dV;split<;>simp
 obtain⟨M,hM⟩:=Yx L (sbS U (L.getD i []) c)
 have hget: ∀j,j<L.length->(dV L (sbS U (L.getD i []) c)).getD j []=L.getD j []:=fun j hj=>zG hj
 have hnew:qT U (dV L (sbS U (L.getD i []) c)) i c=⟨(i:Int),c,c,(((dV L (sbS U (L.getD i []) c)).idxOf (sbS U (L.getD i []) c):Nat):Int),sbB U (L.getD i []) c⟩:=by unfold qT;rw[hget i hi]
 generalize hN:dV L (sbS U (L.getD i []) c)=N at*
 generalize hs:sbS U (L.getD i []) c=s at*
 have hkeep: ∀j x,j<L.length->sbS U (L.getD j []) x∈L->qT U N j x=qT U L j x:=fun j x h1 h2=>by rw[hM];exact aAy h1 h2
 refine⟨?_,?_,fun a ha=>?_,fun j x h1 h2 h3 h4 h5=>?_,?_,fun j hj=>?_⟩
 ·rw[hget 0 h.len];exact h.l0
 ·have:=h.len;simp only at this⊢;omega
 ·simp only at ha⊢
  rcases List.mem_append.1 ha with ha|ha
  ·obtain⟨j,x,g1,g2,g3,g4,g5,rfl⟩:=h.snd a ha
   refine⟨j,x,by omega,g2,by simp only at g3;omega,by rw[hget j g3];exact g4,?_,(hkeep j x g3 g5).symm⟩
   rw[hget j g3,hM]
   exact List.mem_append.2 (.inl g5)
  ·rw[List.mem_singleton]at ha
   subst ha
   exact⟨i,c,.inr ⟨rfl,by omega⟩,hc,by omega,by rw[hget i hi];exact hb,by rw[hget i hi,hs];exact hmem,rfl⟩
 ·simp only at h4 h5⊢
  rw[List.mem_append,List.mem_singleton]
  by_cases e:j=i/\x=c
  ·right;rw[e.1,e.2]
  ·left
   have hj:j<L.length:=by omega
   rw[hget j hj]at h5
   have g:=h.cpl j x (by omega) h2 h3 hj h5
   obtain⟨j',x',q1,q2,q3,q4,q5,q6⟩:=h.snd _ g
   have e1:(j:Int)=j':=congrArg Arc.f q6
   have e2:x=x':=congrArg Arc.i q6
   have e3:j=j':=by omega
   subst e2 e3
   rw[hkeep j x hj q5]
   exact g
 ·refine List.pairwise_append.2 ⟨h.srt,List.pairwise_singleton _ _,fun a ha b hb'=>?_⟩
  rw[List.mem_singleton]at hb'
  subst hb'
  obtain⟨j,x,q1,q2,q3,q4,q5,rfl⟩:=h.snd a ha
  rw[kX]
  show(j:Int)<(i:Int)\/(j:Int)=i/\(x<c\/_)
  omega
 ·simp only at hj⊢
  by_cases hj2:j<L.length
  ·obtain⟨w,d,hr⟩:=h.rch j hj2
   exact⟨w,d,hr.mono fun a ha=>List.mem_append.2 (.inl ha)⟩
  ·obtain⟨w,d,hr⟩:=h.rch i hi
   have hr2:=(hr.mono (M:=raw++[qT U N i c]) fun a ha=>List.mem_append.2 (.inl ha)).snoc (List.mem_append.2 (.inr (List.mem_singleton.2 rfl))) rfl
   have e:(qT U N i c).t=(j:Int):=by
    rw[hnew]
    simp only
    rcases hcase with e|e
    ·rw[e]at hj;omega
    ·have hsn:s∉L:=by
      intro hin
      rw[<-hN]at e
      unfold dV at e
      rw[if_pos hin]at e
      have:=congrArg List.length e
      simp at this
     rw[e]at hj⊢
     rw[gW hsn]
     simp at hj⊢
     omega
   rw[e]at hr2
   exact⟨_,_,hr2⟩
theorem RI.step {U:TF} {i:Nat} {c:Int} {st:DS} (h:RI U i c st) (hi:i<st.1.length) (hc:1<=c/\c<=9):RI U i (c+1) (stD U i st c):=by
 unfold stD
 by_cases hb:sbB U (st.1.getD i []) c= -1
 ·rw[if_pos hb];exact h.skip hb
 ·rw[if_neg hb]
  have:=h.push hi hc hb
  have e:qT U (dV st.1 (sbS U (st.1.getD i []) c)) i c=⟨(i:Int),c,c,(((dV st.1 (sbS U (st.1.getD i []) c)).idxOf (sbS U (st.1.getD i []) c):Nat):Int),sbB U (st.1.getD i []) c⟩:=by
   unfold qT;rw[zG hi]
  rw[<-e]
  exact this
theorem aAS {U:TF} {i:Nat} {c:Int} {st:DS}:st.1.length<=(stD U i st c).1.length:=by
 unfold stD
 split
 ·exact Nat.le_refl _
 ·exact(tQ _ _).1
theorem RI.row {U:TF} {i:Nat} {st:DS} (h:RI U i 1 st) (hi:i<st.1.length): ∀k:Nat,k<=9->RI U i ((k:Int)+1) (jM U i st k)/\st.1.length<=(jM U i st k).1.length
 |0,_=>⟨h,Nat.le_refl _⟩
 |k+1,hk=>by
  obtain⟨h1,h2⟩:=RI.row h hi k (by omega)
  rw[qB]
  refine⟨?_,Nat.le_trans h2 aAS⟩
  have:=h1.step (by omega) (by omega)
  rwa [show((k:Int)+1+1)=((k+1:Nat):Int)+1 by omega]at this
theorem jI.ri {U:TF} {st:DS} (h:jI U st):RI U st.1.length 1 st:=by
 obtain⟨k,e,hk⟩:=h
 have hlt: ∀j,j<k->j<(bN U j).1.length:=by
  intro j hj
  refine Classical.byContradiction fun hc=>?_
  have:=qA (U:=U) (j:=j) (by omega) (k-j)
  rw[show j+(k-j)=k by omega,e]at this
  rw[<-this]at hc
  omega
 have: ∀j,j<=k->RI U j 1 (bN U j):=by
  intro j
  induction j with
  |zero=>intro _;exact RI.start U
  |succ j ih=>
   intro hj
   exact((ih (by omega)).row (hlt j (by omega)) 9 (Nat.le_refl _)).1.next
 have:=this k (Nat.le_refl _)
 rwa [e,hk]at this
section
variable {U:TF} (hU: ∀a∈U.arcs,(0<=a.f/\a.f<U.st)/\(0<=a.t/\a.t<U.st)/\0<=a.w/\a.w<=1000000000) {st:DS} (h:RI U st.1.length 1 st)
include h
theorem RI.arc {a:Arc} (ha:a∈st.2): ∃(j:Nat) (x:Int),(1<=x/\x<=9)/\j<st.1.length/\sbB U (st.1.getD j []) x≠ -1/\sbS U (st.1.getD j []) x∈st.1/\a.f=j/\a.i=x/\a.o=x/\a.w=sbB U (st.1.getD j []) x/\(0<=a.t/\a.t.toNat<st.1.length)/\st.1.getD a.t.toNat []=sbS U (st.1.getD j []) x:=by
 obtain⟨j,x,h1,h2,h3,h4,h5,rfl⟩:=h.snd a ha
 exact⟨j,x,h2,h3,h4,h5,rfl,rfl,rfl,rfl,⟨Int.natCast_nonneg _,List.idxOf_lt_length_of_mem h5⟩,Nt h5⟩
include hU
theorem RI.sub {w:List Int} {j d:Int} (hr:RdW st.2 0 w j d):nP U w d (st.1.getD j.toNat []):=by
 have: ∀(n:Nat) (w:List Int) (j d:Int),w.length=n->RdW st.2 0 w j d->nP U w d (st.1.getD j.toNat []):=by
  intro n
  induction n with
  |zero=>
   intro w j d hw hr
   have:w=[]:=List.length_eq_zero_iff.1 hw
   subst this
   obtain⟨rfl,rfl⟩:=hr.none rfl
   rw[show(0:Int).toNat=0 from rfl,h.l0]
   exact nP.start U
  |succ n ih=>
   intro w j d hw hr
   obtain⟨v,x,rfl⟩: ∃v x,w=v++[x]:=⟨w.dropLast,w.getLast (by intro e;rw[e]at hw;cases hw),(List.dropLast_concat_getLast _).symm⟩
   rw[List.length_append,List.length_singleton]at hw
   obtain⟨a,ha,e,h1,h2,h3,h4⟩:=hr.unsnoc
   have hv:=ih v a.f e (by omega) h1
   obtain⟨i,y,g1,g2,g3,g4,g5,g6,g7,g8,g9,g10⟩:=h.arc ha
   rw[g5,Int.toNat_natCast]at hv
   rw[<-h3,g10,h4,g8,<-h2,g6]
   exact hv.step hU g3
 exact this w.length w j d rfl hr
theorem RI.reads (hlet: ∀a∈U.arcs,1<=a.i/\a.i<=9) {w:List Int} (hb:Bg U w): ∃(j:Nat) (d:Int),j<st.1.length/\RdW st.2 0 w j d:=by
 have: ∀(n:Nat) (w:List Int),w.length=n->Bg U w-> ∃(j:Nat) (d:Int),j<st.1.length/\RdW st.2 0 w j d:=by
  intro n
  induction n with
  |zero=>
   intro w hw _
   have:w=[]:=List.length_eq_zero_iff.1 hw
   subst this
   exact⟨0,0,h.len,.nil _⟩
  |succ n ih=>
   intro w hw hb
   obtain⟨v,x,rfl⟩: ∃v x,w=v++[x]:=⟨w.dropLast,w.getLast (by intro e;rw[e]at hw;cases hw),(List.dropLast_concat_getLast _).symm⟩
   rw[List.length_append,List.length_singleton]at hw
   obtain⟨j,d,hj,hr⟩:=ih v (by omega) hb.pre
   have hs:=h.sub hU hr
   rw[Int.toNat_natCast]at hs
   have hx:1<=x/\x<=9:=by
    obtain⟨t,c,hb⟩:=hb
    exact hb.lets hlet x (by simp)
   have hne:sbB U (st.1.getD j []) x≠ -1:=fun e=>hs.no hU e hb
   have ha:=h.cpl j x (.inl hj) hx.1 hx.2 hj hne
   obtain⟨i,y,g1,g2,g3,g4,g5,g6,g7,g8,g9,g10⟩:=h.arc ha
   have hr2:=hr.snoc ha rfl
   rw[show(qT U st.1 j x).t=((((qT U st.1 j x).t.toNat:Nat):Int)) by omega]at hr2
   exact⟨_,_,g9.2,hr2⟩
 exact this w.length w rfl hb
end
theorem Ez {L:List Arc} (hL: ∀a∈L,a.i=a.o/\a.i≠0) {s t d:Int} {u v:List Int} (h:Way L s u v t d):u=v/\RdW L s u t d:=by
 induction h with
 |nil s=>exact⟨rfl,.nil _⟩
 |cons ha h ih=>
  have:=hL _ ha
  obtain⟨rfl,h2⟩:=ih
  rw[<-this.1]
  unfold lab
  rw[if_neg this.2]
  exact⟨rfl,.cons ha h2⟩
theorem Fo {L:List Arc} (hL: ∀a∈L,a.i=a.o/\a.i≠0) {s t d:Int} {u:List Int} (h:RdW L s u t d):Way L s u u t d:=by
 induction h with
 |nil s=>exact .nil _
 |cons ha h ih=>
  have h1:=hL _ ha
  have:=Way.cons ha ih
  rw[<-h1.1]at this
  unfold lab at this
  rwa [if_neg h1.2]at this
def mkD (U:TF) (st:DS) (cf ca:Nat):TF:=⟨(st.1.length:Nat),0,st.1.map (bQ U),st.2,cf,ca⟩
section
variable {U:TF} (hU: ∀a∈U.arcs,(0<=a.f/\a.f<U.st)/\(0<=a.t/\a.t<U.st)/\0<=a.w/\a.w<=1000000000)
 (hlet: ∀a∈U.arcs,(1<=a.i/\a.i<=9)/\a.i=a.o) (hfin: ∀j:Nat,-1<=U.fin.getD j 0) {st:DS} (h:RI U st.1.length 1 st)
theorem Gg {j:Nat} (hj:j<st.1.length):(st.1.map (bQ U)).getD j 0=bQ U (st.1.getD j []):=by
 simp[List.getD,hj]
include hU hlet hfin h
end
open Go Go.Proofs
def aDq (l:List Arc):Nat->Int
 |0=>0
 |k+1=>aDq l k+(l.getD k aD).w
def wX (l:List Int):Nat->Int
 |0=>0
 |k+1=>if wX l k<l.getD k 0 then l.getD k 0 else wX l k
theorem iJ {l:List Arc} {k:Nat} {v:Int}:eX l (k+1) v=true <-> ∃a∈l,a.t=v/\eX l k a.f=true:=by
 show(l.any fun a=>a.t==v&&eX l k a.f)=true <-> _
 rw[List.any_eq_true]
 constructor
 ·rintro⟨a,ha,h⟩
  rw[Bool.and_eq_true,beq_iff_eq]at h
  exact⟨a,ha,h⟩
 ·rintro⟨a,ha,h⟩
  exact⟨a,ha,by rw[Bool.and_eq_true,beq_iff_eq];exact h⟩
theorem qE {l:List Arc}: ∀ {k:Nat} {v:Int},eX l (k+1) v=true->eX l k v=true
 |0,_,_=>rfl
 |k+1,v,h=>by
  obtain⟨a,ha,h1,h2⟩:=iJ.1 h
  exact iJ.2 ⟨a,ha,h1,qE h2⟩
theorem xO {l:List Arc} {k:Nat} {v:Int} {j:Nat} (hj:j<=k) (h:eX l k v=true):eX l j v=true:=by
 obtain⟨d,rfl⟩:=Nat.exists_eq_add_of_le hj
 induction d with
 |zero=>exact h
 |succ d ih=>exact ih (by omega) (qE h)
theorem Qk {l:List Arc} {s t c:Int}: ∀ {w:List Int},RdW l s w t c->eX l w.length t=true:=by
 have: ∀(n:Nat) (w:List Int) (t c:Int),w.length=n->RdW l s w t c->eX l n t=true:=by
  intro n
  induction n with
  |zero=>intro w t c _ _;rfl
  |succ n ih=>
   intro w t c hw hr
   obtain⟨v,x,rfl⟩: ∃v x,w=v++[x]:=⟨w.dropLast,w.getLast (by intro e;rw[e]at hw;cases hw),(List.dropLast_concat_getLast _).symm⟩
   rw[List.length_append,List.length_singleton]at hw
   obtain⟨a,ha,d,h1,h2,h3,h4⟩:=hr.unsnoc
   exact iJ.2 ⟨a,ha,h3,ih v a.f d (by omega) h1⟩
 intro w h
 exact this _ _ _ _ rfl h
theorem Ra {l:List Arc} {n:Int} (hl: ∀a∈l,0<=a.f/\a.f<n): ∀ {k:Nat} {v:Int},0<=v/\v<n->eX l k v=true-> ∃s w c,(0<=s/\s<n)/\w.length=k/\RdW l s w v c
 |0,v,hv,_=>⟨v,[],0,hv,rfl,.nil _⟩
 |k+1,v,hv,h=>by
  obtain⟨a,ha,h1,h2⟩:=iJ.1 h
  obtain⟨s,w,c,g1,g2,g3⟩:=Ra hl (hl a ha) h2
  exact⟨s,w++[a.i],c+a.w,g1,by simp[g2],h1▸g3.snoc ha rfl⟩
theorem Th {l:List Arc} {n:Nat} (hl: ∀a∈l,0<=a.f/\a.f<n) (h:dS l n=true) (M:Nat): ∃v:Nat,v<n/\eX l M v=true:=by
 have key: ∀k,(∃j,j<k/\ ∀v:Nat,v<n->eX l j v=eX l (j+1) v)\/cin n (fun v=>eX l k v)+k<=n:=by
  intro k
  induction k with
  |zero=>exact .inr (sG _ _)
  |succ k ih=>
   rcases ih with⟨j,h1,h2⟩|ih
   ·exact .inl ⟨j,by omega,h2⟩
   ·by_cases hs: ∀v:Nat,v<n->eX l k v=eX l (k+1) v
    ·exact .inl ⟨k,by omega,hs⟩
    ·right
     obtain⟨v,hv⟩:=Classical.not_forall.1 hs
     obtain⟨hv,hne⟩:=Classical.not_imp.1 hv
     have h1:eX l (k+1) v=false:=by
      cases e:eX l (k+1) v with
      |false=>rfl
      |true=>exact absurd ((qE e).trans e.symm) hne
     have h2:eX l k v=true:=by
      cases e:eX l k v with
      |true=>rfl
      |false=>exact absurd (e.trans h1.symm) hne
     have:=Ay (p:=fun v:Nat=>eX l (k+1) v) (q:=fun v:Nat=>eX l k v) (n:=n) (fun i _ h=>qE h) hv h1 h2
     omega
 unfold dS at h
 rw[List.any_eq_true]at h
 obtain⟨v,hv,h⟩:=h
 have hv:=List.mem_range.1 hv
 refine⟨v,hv,?_⟩
 rcases key n with⟨j,hj,hs⟩|hk
 ·have hst: ∀d (v:Nat),v<n->eX l (j+d) v=eX l j v:=by
   intro d
   induction d with
   |zero=>intro v _;rfl
   |succ d ih=>
    intro v hv
    rw[hs v hv,Bool.eq_iff_iff,iJ,<-Nat.add_assoc,iJ]
    constructor
    ·rintro⟨a,ha,h1,h2⟩
     have hr:=hl a ha
     have:=ih a.f.toNat (by omega)
     rw[show((a.f.toNat:Nat):Int)=a.f by omega]at this
     exact⟨a,ha,h1,this▸h2⟩
    ·rintro⟨a,ha,h1,h2⟩
     have hr:=hl a ha
     have:=ih a.f.toNat (by omega)
     rw[show((a.f.toNat:Nat):Int)=a.f by omega]at this
     exact⟨a,ha,h1,this.symm▸h2⟩
  by_cases hM:M<=j
  ·exact xO (by omega:M<=n) h
  ·have e1:=hst (M-j) v hv
   rw[show j+(M-j)=M by omega]at e1
   rw[e1]
   exact xO (by omega:j<=n) h
 ·exfalso
  have:=Ay (p:=fun _=>false) (q:=fun v:Nat=>eX l n v) (n:=n) (fun i _ h=>by cases h) hv rfl h
  omega
theorem Kc {l:List Int}: ∀k,∀j,j<k->l.getD j 0<=wX l k
 |0,j,h=>by omega
 |k+1,j,h=>by
  unfold wX
  by_cases e:j=k
  ·subst e
   split<;>omega
  ·have:=Kc (l:=l) k j (by omega)
   split<;>omega
theorem lC.arcs {F U:TF} (h:lC F U) {a:Arc} (ha:a∈U.arcs): ∃b∈F.arcs,a.i=b.i/\a.o=b.o/\a.w=b.w:=by
 obtain⟨p,hp,h1,h2,h3,h4⟩:=h
 rw[h4]at ha
 unfold kT at ha
 split at ha
 ·obtain⟨b,hb,_,_,rfl⟩:=fN.1 ha
  exact⟨b,hb,rfl,rfl,rfl⟩
 ·cases ha
theorem lC.fin {F U:TF} (h:lC F U) (j:Nat):U.fin.getD j 0<=wX F.fin F.fin.length:=by
 obtain⟨p,hp,h1,h2,h3,h4⟩:=h
 have h0:0<=wX F.fin F.fin.length:=by
  have: ∀k,0<=wX F.fin k:=by
   intro k
   induction k with
   |zero=>exact Int.le_refl _
   |succ k ih=>unfold wX;split<;>omega
  exact this _
 by_cases hj:j<U.fin.length
 ·have hm:=aB U.fin j 0 hj
  generalize U.fin.getD j 0=n at*
  rw[h3]at hm
  unfold kT at hm
  split at hm
  ·obtain⟨i,hi,rfl⟩:=lZ F.fin hm
   by_cases hi2:i<F.fin.length
   ·exact Kc _ i hi2
   ·simp only[List.getD,List.getElem?_eq_none (show F.fin.length<=i by omega),Option.getD_none];exact h0
  ·rw[List.mem_singleton]at hm
   omega
 ·simp only[List.getD,List.getElem?_eq_none (show U.fin.length<=j by omega),Option.getD_none];exact h0
theorem RdW.empty {L:List Arc} {s t c:Int} {w:List Int} (h:RdW L s w t c) (hL:L=[]):w=[]/\t=s/\c=0:=by
 cases h with
 |nil=>exact⟨rfl,rfl,rfl⟩
 |cons ha _=>rw[hL]at ha;cases ha
theorem lC.rd {F U:TF} (h:lC F U) (hF:FRng F) (hs:0<=F.start/\F.start<F.st) (hL: ∀a∈F.arcs,a.i=a.o/\a.i≠0) {w:List Int} {t c:Int} (hr:RdW U.arcs U.start w t c): ∃t',(0<=t'/\t'<F.st)/\RdW F.arcs F.start w t' c:=by
 have hLU: ∀a∈U.arcs,a.i=a.o/\a.i≠0:=fun a ha=>by
  obtain⟨b,hb,e1,e2,_⟩:=h.arcs ha
  rw[e1,e2];exact hL b hb
 obtain⟨p,hp,h1,h2,h3,h4⟩:=h
 rw[h4]at hLU
 rw[h4,h2]at hr
 by_cases hps:p F.start.toNat=true
 ·have e1:(kT F p).arcs=bW p F.arcs F.arcs.length:=by unfold kT;rw[if_pos hps]
  have e2:(kT F p).start=(rkB p F.start.toNat:Nat):=by unfold kT;rw[if_pos hps]
  rw[e1]at hLU
  rw[e1,e2]at hr
  obtain⟨j,q1,q2,q3,q4,q5⟩:=Jo hF (Fo hLU hr) F.start hs hps rfl
  exact⟨j,⟨q1,q2⟩,(Ez hL q5).2⟩
 ·have e1:(kT F p).arcs=[]:=by unfold kT;rw[if_neg hps]
  rw[e1]at hr
  obtain⟨rfl,_,rfl⟩:=hr.empty rfl
  exact⟨F.start,hs,.nil _⟩
theorem vZ {F:TF}:lK F=true <-> (∀a∈F.arcs,a.i=a.o/\a.i≠0)/\dS F.arcs F.st.toNat=false:=by
 unfold lK pO aAW
 rw[Bool.and_eq_true,Bool.and_eq_true,Bool.not_eq_true',Bool.not_eq_true',Bool.not_eq_true',List.any_eq_false,List.any_eq_false]
 constructor
 ·rintro⟨⟨h1,h2⟩,h3⟩
  exact⟨fun a ha=>⟨by simpa using h1 a ha,by simpa using h2 a ha⟩,h3⟩
 ·rintro⟨h1,h2⟩
  exact⟨⟨fun a ha=>by simpa using (h1 a ha).1,fun a ha=>by simpa using (h1 a ha).2⟩,h2⟩
structure fE (F U:TF) (st:DS):Prop where
 fok:FOk F
 fine:lK F=true
 us:lC F U
 bgn:iO U 201 200 [⟨U.start,0⟩]<=200
 done:jI U st
section
variable {F U:TF} {st:DS} (h:fE F U st)
include h
theorem fE.wok:WOk F:=⟨FRng.of h.fok,fun a ha=>⟨(h.fok.arc a ha).w0,(h.fok.arc a ha).w1⟩,h.fok.fin⟩
theorem fE.lets: ∀a∈F.arcs,a.i=a.o/\a.i≠0:=(vZ.1 h.fine).1
theorem fE.uok:WOk U/\(0<=U.start/\U.start<U.st)/\U.st<=F.st:=h.us.ok h.wok h.fok.start
theorem fE.hU: ∀a∈U.arcs,(0<=a.f/\a.f<U.st)/\(0<=a.t/\a.t<U.st)/\0<=a.w/\a.w<=1000000000:=fun a ha=>by
 have:=h.uok.1.arc a ha
 have:=h.uok.1.w a ha
 omega
theorem fE.hlet: ∀a∈U.arcs,(1<=a.i/\a.i<=9)/\a.i=a.o:=fun a ha=>by
 obtain⟨b,hb,e1,e2,_⟩:=h.us.arcs ha
 have:=h.lets b hb
 have:=(h.fok.arc b hb).i0
 omega
theorem fE.hfin: ∀j:Nat,-1<=U.fin.getD j 0:=fun j=>by
 by_cases hj:j<U.fin.length
 ·exact(h.uok.1.fin _ (aB U.fin j 0 hj)).1
 ·simp only[List.getD,List.getElem?_eq_none (show U.fin.length<=j by omega),Option.getD_none];omega
theorem fE.ri:RI U st.1.length 1 st:=h.done.ri
theorem fE.small:qU U (lF U 201 [⟨U.start,0⟩]) st.1.length st/\st.1.length<=200/\st.2.length<=1800:=
 h.done.small h.uok.1.st.1 h.uok.1.w (fun a ha=>(h.hU a ha).2.1) h.uok.2.1 h.bgn
theorem fE.round (cf ca:Nat):dS (mkD U st cf ca).arcs (mkD U st cf ca).st.toNat=false:=by
 show dS st.2 ((st.1.length:Nat):Int).toNat=false
 rw[Int.toNat_natCast]
 have hr:=h.ri
 obtain⟨h1,h2,h3⟩:=h.small
 cases hc:dS st.2 st.1.length with
 |false=>rfl
 |true=>
  exfalso
  have hf: ∀a∈st.2,0<=a.f/\a.f<(st.1.length:Nat):=fun a ha=>by
   obtain⟨j,x,q1,q2,q3,q4,q5,q6,q7,q8,q9,q10⟩:=hr.arc ha
   omega
  obtain⟨v,hv,hn⟩:=Th hf hc F.st.toNat
  obtain⟨s,w,c,hs,hw,hrd⟩:=Ra hf (v:=(v:Int)) ⟨by omega,by omega⟩ hn
  obtain⟨w0,d,hr0⟩:=hr.rch s.toNat (by omega)
  rw[show((s.toNat:Nat):Int)=s by omega]at hr0
  have hall:=hr0.app hrd
  have hsub:=hr.sub h.hU hall
  rw[Int.toNat_natCast]at hsub
  have hne:=h1.ne _ (aB st.1 v [] hv)
  obtain⟨e,he⟩:=List.exists_mem_of_ne_nil _ hne
  have hp:=(hsub.min e he).is (by have:=hsub.r0;have:=hsub.b0 e he;omega)
  obtain⟨t',ht,hF⟩:=h.us.rd h.wok.toFRng h.fok.start h.lets hp
  have hnb:=xO (k:=(w0++w).length) (j:=F.st.toNat) (by rw[List.length_append,hw];omega) (Qk hF)
  have hrf:=(vZ.1 h.fine).2
  unfold dS at hrf
  rw[List.any_eq_false]at hrf
  have:=hrf t'.toNat (List.mem_range.2 (by omega))
  rw[show((t'.toNat:Nat):Int)=t' by omega]at this
  exact this hnb
end
theorem oQ {p q:Nat->Bool}: ∀k,(∀j,j<k->p j=q j)->rkB p k=rkB q k
 |0,_=>rfl
 |k+1,h=>by
  have:=oQ k fun j hj=>h j (by omega)
  unfold rkB
  rw[h k (by omega),this]
theorem Ds {p q:Nat->Bool} (fin:List Int): ∀k,(∀j,j<k->p j=q j)->bY p fin k=bY q fin k
 |0,_=>rfl
 |k+1,h=>by
  have:=Ds fin k fun j hj=>h j (by omega)
  unfold bY
  rw[h k (by omega),this]
theorem Dt {p q:Nat->Bool} {n:Nat} (hpq: ∀j,j<n->p j=q j) {l:List Arc} (hl: ∀a∈l,a.f.toNat<n/\a.t.toNat<n): ∀k,k<=l.length->bW p l k=bW q l k
 |0,_=>rfl
 |k+1,hk=>by
  have ih:=Dt hpq hl k (by omega)
  have ha:=hl _ (aB l k aD (by omega))
  unfold bW kOk jN
  rw[ih,hpq _ ha.1,hpq _ ha.2,oQ _ fun j hj=>hpq j (by omega),oQ (q:=q) _ fun j hj=>hpq j (by omega)]
theorem aBD {F:TF} (hF:FRng F) (hs:0<=F.start/\F.start<F.st) {p q:Nat->Bool} (hp:nH F p) (hq:nH F q):kT F p=kT F q:=by
 have hpq: ∀j,j<F.st.toNat->p j=q j:=fun j hj=>by
  rw[Bool.eq_iff_iff,hp.iff j hj,hq.iff j hj]
 have h1:=oQ F.st.toNat hpq
 have h2:=Ds F.fin F.st.toNat hpq
 have h3:=Dt hpq (l:=F.arcs) (fun a ha=>by have:=hF.arc a ha;omega) F.arcs.length (Nat.le_refl _)
 have h4:=oQ (p:=p) (q:=q) F.start.toNat fun j hj=>hpq j (by omega)
 unfold kT
 rw[hpq _ (by omega),h1,h2,h3,h4]
section
variable {F U V:TF} (hF:FOk F) (hf:lK F=true) (hU:lC F U) (hV:lC F V) {W vs:List (List Int)} {par sym:List Int} {i:Nat} {c:Int}
include hF hf hV
end
theorem Kb {F:TF} (h:aL F=0):FRng F/\(0<=F.start/\F.start<F.st)/\ ∀n∈F.fin,-1<=n:=by
 have hF:=aK h
 have h1:=hF.st
 have h2:=hF.start
 have h3:=hF.finl
 have h4:=hF.arcl
 refine⟨⟨by omega,by omega,by omega,fun a ha=>?_⟩,by omega,fun n hn=>by have:=hF.fin n hn;omega⟩
 obtain⟨q1,q2,q3,q4,q5,q6,q7,q8⟩:=hF.arc a ha
 omega
def kY (F:TF) (st sa:Int) (fin:List Int) (arcs:List Arc):Prop:=
 (aL F≠0/\st=0/\sa=0/\fin=[]/\arcs=[])\/(aL F=0/\ ∃p,nH F p/\st=(kT F p).st/\sa=(kT F p).start/\fin=(kT F p).fin/\arcs=(kT F p).arcs)
theorem kY.uniq {F:TF} {st sa st' sa':Int} {fin fin':List Int} {arcs arcs':List Arc} (h:kY F st sa fin arcs) (h':kY F st' sa' fin' arcs'):st=st'/\sa=sa'/\fin=fin'/\arcs=arcs':=by
 rcases h with⟨h0,rfl,rfl,rfl,rfl⟩|⟨h0,p,hp,rfl,rfl,rfl,rfl⟩<;>rcases h' with⟨h1,rfl,rfl,rfl,rfl⟩|⟨h1,q,hq,rfl,rfl,rfl,rfl⟩
 ·exact⟨rfl,rfl,rfl,rfl⟩
 ·exact absurd h1 h0
 ·exact absurd h0 h1
 ·obtain⟨hr,hs,_⟩:=Kb h0
  rw[aBD hr hs hp hq]
  exact⟨rfl,rfl,rfl,rfl⟩
def Ls (F:TF) (v:SV) (s:S):Prop:= ∃st sa fin arcs sp sq,kY F st sa fin arcs/\v= .tup [.agg [.i st,.i sa,.sl 2 1 0 fin.length (fin.length+sp),.sl 3 5 0 arcs.length (arcs.length+sq)],.c (.i (aL F))]/\
 s=⟨[],[(2,.arr true 3 .int fin sp),(3,.arr true 55 .arc arcs sq)],4⟩
theorem Wm (F:TF) (hl:F.fin.length<=9223372036854775807):Ct Tryz.prog 15 [fV F] [] (hpF F) 2 (Ls F):=by
 refine ctW Tryz.tyOk 5 [] Tryz.func15 rfl (by simp) (by simp) (fr:= [(0,fV F)]) rfl ?_
 refine gO ?_
 refine cF (aU F hl) [0,1] Tryz.call35 ?_
 rintro _ _ ⟨rfl,rfl⟩
 refine gO ?_
 refine⟨fun h=>?_,fun h=>?_⟩
 ·exact⟨[(2,none),(3,none)],[(2,.arr true 3 .int [] 0),(3,.arr true 55 .arc [] 0)],4,.tup [.agg [.i 0,.i 0,.sl 2 1 0 0 0,.sl 3 5 0 0 0],.c (.i (aL F))],⟨by rfl,trivial,by simp[cT]⟩,by simp,0,0,[],[],0,0,.inl ⟨h,rfl,rfl,rfl,rfl⟩,rfl,rfl⟩
 ·obtain⟨hr,hs,_⟩:=Kb h
  (conv=>whnf)
  refine cF (nZ F hr hs) [0,1] Tryz.call48 ?_
  rintro _ _ ⟨p,hp,sp,sq,rfl,rfl⟩
  have hU:kY F (kT F p).st (kT F p).start (kT F p).fin (kT F p).arcs:= .inr ⟨h,p,hp,rfl,rfl,rfl,rfl⟩
  generalize kT F p=K at*
  obtain⟨a,b,c,d,e,f⟩:=K
  refine gN ?_
  refine⟨[(2,some 4),(3,some 5)],[(2,.arr true 3 .int c sp),(3,.arr true 55 .arc d sq)],4,.tup [.agg [.i a,.i b,.sl 2 1 0 c.length (c.length+sp),.sl 3 5 0 d.length (d.length+sq)],.c (.i (aL F))],⟨by rfl,trivial,by simp⟩,by simp[h],a,b,c,d,sp,sq,hU,rfl,rfl⟩
def sgA (cls:List Int) (a:Arc):List UInt8:= [32]++Lib.itoa a.i++[58]++Lib.itoa a.w++[58]++Lib.itoa (cls.getD a.t.toNat 0)
def sgB (F:TF) (cls:List Int) (n:Int):Nat->List UInt8
 |0=>Lib.itoa (F.fin.getD n.toNat 0)
 |k+1=>if(F.arcs.getD k aD).f=n then sgB F cls n k++sgA cls (F.arcs.getD k aD)else sgB F cls n k
def lN (F:TF) (cls:List Int) (n:Int):Nat->Bool
 |0=>true
 |k+1=>lN F cls n k&& !(decide ((F.arcs.getD k aD).f=n)&&decide (cls.getD (F.arcs.getD k aD).t.toNat 0<0))
def Py (F:TF) (cls:List Int) (n:Int):SV:=if lN F cls n F.arcs.length=true then .tup [.c (.v (.string (bs (sgB F cls n F.arcs.length)))),.c (.b true)]else .tup [.c (.v (.string (bs []))),.c (.b false)]
structure Hs (F:TF):Prop extends FRng F where
 st1:F.st<=1000
 arc1:F.arcs.length<=10000
 i: ∀a∈F.arcs,0<=a.i/\a.i<=9
 w: ∀a∈F.arcs,0<=a.w/\a.w<=10000000000000
 fin: ∀n∈F.fin,-1<=n/\n<=10000000000000
theorem vS {n B:Int} (h0: -1<=n) (h1:n<=B) (hB:1<=B):((Lib.itoa n).length:Int)<=B+2:=by
 by_cases h:0<=n
 ·have:=eU h h1;omega
 ·have:n= -1:=by omega
  subst this
  have:(Lib.itoa (-1)).length=2:=by decide+kernel
  omega
theorem Qb {F:TF} (hF:Hs F) {cls:List Int} (hc: ∀c∈cls,-1<=c/\c<=1000) {n:Int} (hn:0<=n/\n<F.st) (hcl:(cls.length:Int)=F.st): ∀k,k<=F.arcs.length->((sgB F cls n k).length:Int)<=10000000000002+k*20000000000000
 |0,_=>by
  have hfl:=hF.finl
  have hf:=hF.fin _ (aB F.fin n.toNat 0 (by omega))
  unfold sgB
  have:=vS hf.1 hf.2 (by omega)
  omega
 |k+1,hk=>by
  have ih:=Qb hF hc hn hcl k (by omega)
  have hm:=aB F.arcs k aD (by omega)
  have h1:=hF.i _ hm
  have h2:=hF.w _ hm
  have h3:=hF.arc _ hm
  have h4:=hc _ (aB cls (F.arcs.getD k aD).t.toNat 0 (by omega))
  have g1:=eU h1.1 h1.2
  have g2:=eU h2.1 h2.2
  have g3:=vS h4.1 h4.2 (by omega)
  unfold sgB
  split
  ·unfold sgA
   simp only[List.length_append,List.length_cons,List.length_nil]
   omega
  ·omega
theorem Qa {F:TF} {cls:List Int} {n:Int} {k:Nat}: ∀ {m:Nat},k<=m->lN F cls n m=true->lN F cls n k=true
 |0,h,g=>by rw[show k=0 by omega];rfl
 |m+1,h,g=>by
  by_cases e:k=m+1
  ·rw[e];exact g
  ·unfold lN at g
   rw[Bool.and_eq_true]at g
   exact Qa (by omega) g.1
theorem aCC (F:TF) (hF:Hs F) (cls:List Int) (cc:Nat) (hc: ∀c∈cls,-1<=c/\c<=1000) (n:Int) (hn:0<=n/\n<F.st) (hcl:(cls.length:Int)=F.st) (x:Glo) (hx:gJ x):
  Ct Tryz.prog 144 [fV F,.c (.sl 2 1 0 cls.length cc),.i n] [] (hpF F++[(2,.arr false 3 .int cls 0),(3,aF x)]) 4 (fun v s=>v=Py F cls n/\s=⟨[],[(3,aF x)],4⟩):=by
 have hst:=hF.st
 have hal:=hF.arc1
 have hfl:=hF.finl
 have hf0:=hF.fin _ (aB F.fin n.toNat 0 (by omega))
 have hf1: -1<=F.fin.getD (0+n.toNat) EK.int.dflt/\F.fin.getD (0+n.toNat) EK.int.dflt<=10000000000000:=by rw[Nat.zero_add];exact hf0
 refine ctW Tryz.tyOk 11 [18,19,20] Tryz.func144 rfl (by simp) (by simp) (fr:= [(0,fV F),(1,.c (.sl 2 1 0 cls.length cc)),(2,.i n)]) rfl ?_
 refine gO ?_
 refine cF (iY x hx (F.fin.getD (0+n.toNat) EK.int.dflt) (by omega) (by omega)) [3] Tryz.call79 ?_
 rintro _ _ ⟨rfl,rfl⟩
 simp only[Nat.reduceAdd,Nat.reduceSub]
 refine gO ?_
 refine aJ (fun k:Nat=>⟨[(1,.c (.sl 2 1 0 cls.length cc)),(2,.i n),(3,.c (.ptr 4 0)),(8,stV (sgB F cls n k)),(18,.c (.sl 1 5 0 F.arcs.length F.capA)),(19,.i F.arcs.length),(20,.i k)],hpF F++[(2,.arr false 3 .int cls 0),(3,aF x),(4,.box 25 (aA F))],5⟩)
  (fun k=>k<=F.arcs.length/\lN F cls n k=true) (fun k=>F.arcs.length-k) 0 [] ⟨by rfl,?_,?_⟩ ⟨Nat.zero_le _,rfl⟩ ?_
 ·simp[sgB,bs,EK.dflt]
 ·simp[aA,aF]
 ·rintro k ⟨hk,hok⟩
  have hsl:=Qb hF hc hn hcl k hk
  have hks:sgB F cls n (k+1)=if(F.arcs.getD k aD).f=n then sgB F cls n k++sgA cls (F.arcs.getD k aD)else sgB F cls n k:=rfl
  have hko:lN F cls n (k+1)=(lN F cls n k&& !(decide ((F.arcs.getD k aD).f=n)&&decide (cls.getD (F.arcs.getD k aD).t.toNat 0<0))):=rfl
  rw[hok,Bool.true_and]at hko
  generalize hsg:sgB F cls n k=sg at*
  (conv=>whnf)
  refine aG (fun hk2=>?_) (fun hk2=>?_)
  ·have e0:0+(k:Int).toNat=k:=by omega
   have hax:F.arcs.getD (0+(k:Int).toNat) EK.arc.dflt=F.arcs.getD k aD:=by rw[e0];rfl
   have hm:=aB F.arcs k aD (by omega)
   have hr1:=hF.i _ hm
   have hr2:=hF.w _ hm
   have hr3:=hF.arc _ hm
   have hcv:=hc _ (aB cls (F.arcs.getD k aD).t.toNat 0 (by omega))
   rw[<-hax]at hks hko hr1 hr2 hr3 hcv
   have hcv2: -1<=cls.getD (0+(F.arcs.getD (0+(k:Int).toNat) EK.arc.dflt).t.toNat) EK.int.dflt/\cls.getD (0+(F.arcs.getD (0+(k:Int).toNat) EK.arc.dflt).t.toNat) EK.int.dflt<=1000:=by rw[show 0+(F.arcs.getD (0+(k:Int).toNat) EK.arc.dflt).t.toNat=(F.arcs.getD (0+(k:Int).toNat) EK.arc.dflt).t.toNat from Nat.zero_add _];exact hcv
   have hko2:lN F cls n (k+1)= !(decide ((F.arcs.getD (0+(k:Int).toNat) EK.arc.dflt).f=n)&&decide (cls.getD (0+(F.arcs.getD (0+(k:Int).toNat) EK.arc.dflt).t.toNat) EK.int.dflt<0)):=by rw[show 0+(F.arcs.getD (0+(k:Int).toNat) EK.arc.dflt).t.toNat=(F.arcs.getD (0+(k:Int).toNat) EK.arc.dflt).t.toNat from Nat.zero_add _];exact hko
   have hks2:sgB F cls n (k+1)=if(F.arcs.getD (0+(k:Int).toNat) EK.arc.dflt).f=n then sg++([32]++Lib.itoa (F.arcs.getD (0+(k:Int).toNat) EK.arc.dflt).i++[58]++Lib.itoa (F.arcs.getD (0+(k:Int).toNat) EK.arc.dflt).w++[58]++Lib.itoa (cls.getD (0+(F.arcs.getD (0+(k:Int).toNat) EK.arc.dflt).t.toNat) EK.int.dflt))else sg:=by rw[show 0+(F.arcs.getD (0+(k:Int).toNat) EK.arc.dflt).t.toNat=(F.arcs.getD (0+(k:Int).toNat) EK.arc.dflt).t.toNat from Nat.zero_add _];exact hks
   clear hks hko hm
   have hi1:=eU hr1.1 hr1.2
   have hi2:=eU hr2.1 hr2.2
   have hi3:=vS hcv2.1 hcv2.2 (by omega)
   refine gO ?_
   refine⟨fun h=>?_,fun h=>⟨fun h=>?_,fun h=>?_⟩⟩
   ·rw[if_neg h]at hks2
    rw[decide_eq_false h,Bool.false_and]at hko2
    (conv=>whnf)
    refine⟨k+1,[],⟨by rfl,?_,?_⟩,⟨by omega,hko2⟩,by omega⟩
    ·simp[hks2]
    ·simp[aA,aF]
   ·rename_i g
    rw[decide_eq_true g,decide_eq_true h]at hko2
    have hbad: ¬lN F cls n F.arcs.length=true:=fun c=>by
     have:=Qa (k:=k+1) (by omega) c
     rw[hko2]at this
     cases this
    (conv=>whnf)
    refine⟨[],[(3,aF x)],4,.tup [.c (.v (.string (bs []))),.c (.b false)],⟨by rfl,trivial,by simp⟩,by simp[bs],?_,rfl⟩
    unfold Py
    rw[if_neg hbad]
   ·rename_i g
    rw[decide_eq_true g,decide_eq_false h]at hko2
    rw[if_pos g]at hks2
    have hfin:bs sg++((((((⟨#[32]⟩:ByteArray)++(⟨(Lib.itoa (F.arcs.getD (0+(k:Int).toNat) EK.arc.dflt).i).toArray⟩:ByteArray))++(⟨#[58]⟩:ByteArray))++(⟨(Lib.itoa (F.arcs.getD (0+(k:Int).toNat) EK.arc.dflt).w).toArray⟩:ByteArray))++(⟨#[58]⟩:ByteArray))++(⟨(Lib.itoa (cls.getD (0+(F.arcs.getD (0+(k:Int).toNat) EK.arc.dflt).t.toNat) EK.int.dflt)).toArray⟩:ByteArray))=bs (sgB F cls n (k+1)):=by
     show bs sg++(((((bs [32]++bs (Lib.itoa (F.arcs.getD (0+(k:Int).toNat) EK.arc.dflt).i))++bs [58])++bs (Lib.itoa (F.arcs.getD (0+(k:Int).toNat) EK.arc.dflt).w))++bs [58])++bs (Lib.itoa (cls.getD (0+(F.arcs.getD (0+(k:Int).toNat) EK.arc.dflt).t.toNat) EK.int.dflt)))=_
     rw[hks2]
     simp only[cX]
    (conv=>whnf)
    refine cF (iY x hx (F.arcs.getD (0+(k:Int).toNat) EK.arc.dflt).i (by omega) (by omega)) [3] Tryz.call79 ?_
    rintro _ _ ⟨rfl,rfl⟩
    refine gI ?_
    refine⟨?_,?_,?_⟩
    ·show(bs [32]).size+(bs (Lib.itoa (F.arcs.getD (0+(k:Int).toNat) EK.arc.dflt).i)).size<=9223372036854775807
     simp only[cX,aZ,List.length_append,List.length_cons,List.length_nil]
     omega
    ·show(bs [32]++bs (Lib.itoa (F.arcs.getD (0+(k:Int).toNat) EK.arc.dflt).i)).size+(bs [58]).size<=9223372036854775807
     simp only[cX,aZ,List.length_append,List.length_cons,List.length_nil]
     omega
    (conv=>whnf)
    refine cF (iY x hx (F.arcs.getD (0+(k:Int).toNat) EK.arc.dflt).w (by omega) (by omega)) [3] Tryz.call79 ?_
    rintro _ _ ⟨rfl,rfl⟩
    refine gI ?_
    refine⟨?_,?_,?_⟩
    ·show(bs [32]++bs (Lib.itoa (F.arcs.getD (0+(k:Int).toNat) EK.arc.dflt).i)++bs [58]).size+(bs (Lib.itoa (F.arcs.getD (0+(k:Int).toNat) EK.arc.dflt).w)).size<=9223372036854775807
     simp only[cX,aZ,List.length_append,List.length_cons,List.length_nil]
     omega
    ·show(bs [32]++bs (Lib.itoa (F.arcs.getD (0+(k:Int).toNat) EK.arc.dflt).i)++bs [58]++bs (Lib.itoa (F.arcs.getD (0+(k:Int).toNat) EK.arc.dflt).w)).size+(bs [58]).size<=9223372036854775807
     simp only[cX,aZ,List.length_append,List.length_cons,List.length_nil]
     omega
    (conv=>whnf)
    refine cF (iY x hx (cls.getD (0+(F.arcs.getD (0+(k:Int).toNat) EK.arc.dflt).t.toNat) EK.int.dflt) (by omega) (by omega)) [3] Tryz.call79 ?_
    rintro _ _ ⟨rfl,rfl⟩
    refine gI ?_
    refine⟨?_,?_,?_⟩
    ·show(bs [32]++bs (Lib.itoa (F.arcs.getD (0+(k:Int).toNat) EK.arc.dflt).i)++bs [58]++bs (Lib.itoa (F.arcs.getD (0+(k:Int).toNat) EK.arc.dflt).w)++bs [58]).size+(bs (Lib.itoa (cls.getD (0+(F.arcs.getD (0+(k:Int).toNat) EK.arc.dflt).t.toNat) EK.int.dflt))).size<=9223372036854775807
     simp only[cX,aZ,List.length_append,List.length_cons,List.length_nil]
     omega
    ·show(bs sg).size+(bs [32]++bs (Lib.itoa (F.arcs.getD (0+(k:Int).toNat) EK.arc.dflt).i)++bs [58]++bs (Lib.itoa (F.arcs.getD (0+(k:Int).toNat) EK.arc.dflt).w)++bs [58]++bs (Lib.itoa (cls.getD (0+(F.arcs.getD (0+(k:Int).toNat) EK.arc.dflt).t.toNat) EK.int.dflt))).size<=9223372036854775807
     simp only[cX,aZ,List.length_append,List.length_cons,List.length_nil]
     omega
    ·have hfin2:bs sg++((((((⟨#[32]⟩:ByteArray)++bs (Lib.itoa (F.arcs.getD (0+(k:Int).toNat) EK.arc.dflt).i))++(⟨#[58]⟩:ByteArray))++bs (Lib.itoa (F.arcs.getD (0+(k:Int).toNat) EK.arc.dflt).w))++(⟨#[58]⟩:ByteArray))++bs (Lib.itoa (cls.getD (0+(F.arcs.getD (0+(k:Int).toNat) EK.arc.dflt).t.toNat) EK.int.dflt)))=bs (sgB F cls n (k+1)):=hfin
     rw[hfin2]
     refine⟨k+1,[],⟨by rfl,?_,?_⟩,⟨by omega,hko2⟩,by omega⟩
     ·simp
     ·simp[aA,aF]
  ·have e:k=F.arcs.length:=by omega
   subst e
   refine gO ?_
   refine⟨[],[(3,aF x)],4,.tup [.c (.v (.string (bs sg))),.c (.b true)],⟨by rfl,trivial,by simp⟩,by simp,?_,rfl⟩
   unfold Py
   rw[if_pos hok,hsg]
structure Lw (es:List (ByteArray×Int×Nat)) (L:List (List UInt8)):Prop where
 len:es.length=L.length
 lk: ∀t,@lkM EK.str.ty EK.int.ty (EK.instDeq .str) es (bs t)=if t∈L then some ((L.idxOf t:Nat):Int)else none
theorem Lw.nil:Lw [] []:=⟨rfl,fun t=>by simp[lkM]⟩
theorem Lw.new {es:List (ByteArray×Int×Nat)} {L:List (List UInt8)} (h:Lw es L) {s:List UInt8} (hs:s∉L) (clk:Nat):Lw (@bL EK.str.ty EK.int.ty (EK.instDeq .str) es clk (bs s) ((L.length:Nat):Int)).1 (L++[s]):=by
 have hn: ¬(@lkM EK.str.ty EK.int.ty (EK.instDeq .str) es (bs s)).isSome=true:=by rw[h.lk s,if_neg hs];simp
 refine⟨?_,fun t=>?_⟩
 ·unfold bL
  rw[if_neg hn]
  simp[h.len]
 ·rw[fZ]
  by_cases e:bs t=bs s
  ·have e2:=aAv e
   subst e2
   rw[if_pos rfl,if_pos (by simp),gW hs]
   simp
  ·have e2:t≠s:=fun c=>e (by rw[c])
   rw[if_neg e,h.lk t]
   by_cases hx:t∈L
   ·rw[if_pos hx,if_pos (by simp[hx]),pE hx]
   ·rw[if_neg hx,if_neg (by simp[hx,e2])]
theorem Pz {F:TF} {cls cls':List Int} {n:Int} (h: ∀a∈F.arcs,0<=cls.getD a.t.toNat 0->cls'.getD a.t.toNat 0=cls.getD a.t.toNat 0): ∀k,k<=F.arcs.length->lN F cls n k=true->lN F cls' n k=true/\sgB F cls' n k=sgB F cls n k
 |0,_,_=>⟨rfl,rfl⟩
 |k+1,hk,hok=>by
  unfold lN at hok
  rw[Bool.and_eq_true]at hok
  obtain⟨h1,h2⟩:=Pz h k (by omega) hok.1
  have hm:=aB F.arcs k aD (by omega)
  unfold lN sgB
  by_cases e:(F.arcs.getD k aD).f=n
  ·have hc:0<=cls.getD (F.arcs.getD k aD).t.toNat 0:=by
    have:=hok.2
    rw[decide_eq_true e,Bool.true_and,Bool.not_eq_true',decide_eq_false_iff_not]at this
    omega
   have e2:=h _ hm hc
   rw[h1,if_pos e,if_pos e,h2]
   unfold sgA
   rw[e2]
   refine⟨?_,rfl⟩
   rw[decide_eq_true e,Bool.true_and,Bool.true_and,Bool.not_eq_true',decide_eq_false_iff_not]
   omega
  ·rw[h1,if_neg e,if_neg e,h2,decide_eq_false e]
   exact⟨rfl,rfl⟩
theorem Ie {F:TF} {cls:List Int} {n:Int}: ∀ {k:Nat},lN F cls n k=true <-> ∀j,j<k->(F.arcs.getD j aD).f=n->0<=cls.getD (F.arcs.getD j aD).t.toNat 0
 |0=>⟨fun _ j h=>by omega,fun _=>rfl⟩
 |k+1=>by
  unfold lN
  rw[Bool.and_eq_true,Ie (k:=k)]
  constructor
  ·rintro⟨h1,h2⟩ j hj e
   by_cases ej:j=k
   ·subst ej
    rw[decide_eq_true e,Bool.true_and,Bool.not_eq_true',decide_eq_false_iff_not]at h2
    omega
   ·exact h1 j (by omega) e
  ·intro h
   refine⟨fun j hj=>h j (by omega),?_⟩
   by_cases e:(F.arcs.getD k aD).f=n
   ·have:=h k (by omega) e
    rw[decide_eq_true e,Bool.true_and,Bool.not_eq_true',decide_eq_false_iff_not]
    omega
   ·rw[decide_eq_false e];rfl
structure ClI (F:TF) (cls:List Int) (L:List (List UInt8)):Prop where
 len:(cls.length:Int)=F.st
 bd: ∀j,-1<=cls.getD j 0/\(j<F.st.toNat->cls.getD j 0<L.length)
 txt: ∀j:Nat,j<F.st.toNat->0<=cls.getD j 0->lN F cls j F.arcs.length=true/\sgB F cls j F.arcs.length∈L/\cls.getD j 0=((L.idxOf (sgB F cls j F.arcs.length):Nat):Int)
 cnt:L.length<=cin F.st.toNat fun j=>decide (0<=cls.getD j 0)
theorem ClI.start {F:TF} (h:0<=F.st):ClI F (List.replicate F.st.toNat (-1)) []:=by
 have hg: ∀j,j<F.st.toNat->(List.replicate F.st.toNat (-1:Int)).getD j 0= -1:=fun j hj=>by simp[List.getD,hj]
 refine⟨by simp;omega,fun j=>?_,fun j hj h0=>?_,Nat.zero_le _⟩
 ·by_cases hj:j<F.st.toNat
  ·rw[hg j hj];exact⟨Int.le_refl _,fun _=>by simp⟩
  ·have:(List.replicate F.st.toNat (-1:Int)).getD j 0=0:=by simp[List.getD,List.getElem?_eq_none (show(List.replicate F.st.toNat (-1:Int)).length<=j by simp;omega)]
   rw[this]
   exact⟨by omega,fun c=>absurd c hj⟩
 ·rw[hg j hj]at h0;omega
theorem ClI.le {F:TF} {cls:List Int} {L:List (List UInt8)} (h:ClI F cls L):L.length<=F.st.toNat:=Nat.le_trans h.cnt (sG _ _)
theorem ClI.put {F:TF} {cls:List Int} {L:List (List UInt8)} (h:ClI F cls L) {n:Nat} (hn:n<F.st.toNat) (hr: ∀a∈F.arcs,0<=a.t/\a.t<F.st) (h1:cls.getD n 0<0) (hok:lN F cls n F.arcs.length=true) {L':List (List UInt8)} (hL:sgB F cls n F.arcs.length∈L/\L'=L\/sgB F cls n F.arcs.length∉L/\L'=L++[sgB F cls n F.arcs.length]):
  ClI F (cls.set n ((L'.idxOf (sgB F cls n F.arcs.length):Nat):Int)) L':=by
 have hlen:=h.len
 have hmem:sgB F cls n F.arcs.length∈L':=by rcases hL with⟨h,rfl⟩|⟨_,rfl⟩<;>simp[*]
 have hix:=List.idxOf_lt_length_of_mem hmem
 have hsub: ∃M,L'=L++M:=by rcases hL with⟨_,rfl⟩|⟨_,rfl⟩;exact⟨[],by simp⟩;exact⟨_,rfl⟩
 obtain⟨M,hM⟩:=hsub
 have hset: ∀j,(cls.set n ((L'.idxOf (sgB F cls n F.arcs.length):Nat):Int)).getD j 0=if j=n then((L'.idxOf (sgB F cls n F.arcs.length):Nat):Int)else cls.getD j 0:=fun j=>Cq _ _ _ _ (by omega)
 have hcg: ∀j:Int,lN F cls j F.arcs.length=true->lN F (cls.set n ((L'.idxOf (sgB F cls n F.arcs.length):Nat):Int)) j F.arcs.length=true/\sgB F (cls.set n ((L'.idxOf (sgB F cls n F.arcs.length):Nat):Int)) j F.arcs.length=sgB F cls j F.arcs.length:=fun j hj=>
  Pz (fun a ha h0=>by
   rw[hset]
   by_cases e:a.t.toNat=n
   ·rw[e]at h0;omega
   ·rw[if_neg e]) _ (Nat.le_refl _) hj
 have hLL:L.length<=L'.length:=by rw[hM];simp
 refine⟨by rw[List.length_set];exact hlen,fun j=>?_,fun j hj h0=>?_,?_⟩
 ·rw[hset]
  by_cases e:j=n
  ·rw[if_pos e];exact⟨by omega,fun _=>by omega⟩
  ·rw[if_neg e]
   have:=h.bd j
   exact⟨this.1,fun hj=>by have:=this.2 hj;omega⟩
 ·rw[hset]at h0⊢
  by_cases e:j=n
  ·subst e
   obtain⟨g1,g2⟩:=hcg _ hok
   rw[if_pos rfl,g2]
   exact⟨g1,hmem,rfl⟩
  ·rw[if_neg e]at h0⊢
   obtain⟨g1,g2,g3⟩:=h.txt j hj h0
   obtain⟨p1,p2⟩:=hcg _ g1
   rw[p2]
   refine⟨p1,by rw[hM];exact List.mem_append.2 (.inl g2),?_⟩
   rw[g3,hM,pE g2]
 ·have h2:=Ay (p:=fun j=>decide (0<=cls.getD j 0)) (q:=fun j=>decide (0<=(cls.set n ((L'.idxOf (sgB F cls n F.arcs.length):Nat):Int)).getD j 0)) (n:=F.st.toNat) (fun i hi hp=>by
   rw[decide_eq_true_eq]at hp⊢
   rw[hset]
   split
   ·omega
   ·exact hp) hn (decide_eq_false (by omega)) (decide_eq_true (by rw[hset,if_pos rfl];omega))
  have h3:=h.cnt
  rcases hL with⟨_,rfl⟩|⟨_,rfl⟩
  ·omega
  ·rw[List.length_append,List.length_singleton];omega
def LvA (l:List Arc) (r:Nat) (j:Int):Prop:= ∀w t c,RdW l j w t c->w.length<r
theorem LvA.on {l:List Arc} {r:Nat} {a:Arc} (ha:a∈l) (h:LvA l (r+1) a.f):LvA l r a.t:=fun w t c hw=>by
 have:=h _ _ _ (.cons ha hw)
 rw[List.length_cons]at this
 omega
theorem LvA.all {l:List Arc} {n:Nat} (hl: ∀a∈l,0<=a.t/\a.t<n) (h:dS l n=false) {j:Int} (hj:0<=j/\j<n):LvA l n j:=fun w t c hw=>by
 refine Classical.byContradiction fun hc=>?_
 have h1:=xO (j:=n) (by omega) (Qk hw)
 have h2:=hw.rng hl hj
 unfold dS at h
 rw[List.any_eq_false]at h
 have:=h t.toNat (List.mem_range.2 (by omega))
 rw[show((t.toNat:Nat):Int)=t by omega]at this
 exact this h1
def ClD (F:TF) (cls:List Int) (r n:Nat):Prop:= ∀j:Nat,j<F.st.toNat->(LvA F.arcs r j\/j<n/\LvA F.arcs (r+1) j)->0<=cls.getD j 0
structure rG (F:TF) (cls:List Int):Prop where
 len:(cls.length:Int)=F.st
 bd: ∀j,j<F.st.toNat->0<=cls.getD j 0/\cls.getD j 0<F.st
 eq: ∀i j:Nat,i<F.st.toNat->j<F.st.toNat->(cls.getD i 0=cls.getD j 0 <-> sgB F cls i F.arcs.length=sgB F cls j F.arcs.length)
theorem Ux {α:Type} [BEq α] [LawfulBEq α] {l:List α} {x y:α} (hx:x∈l) (hy:y∈l) (h:l.idxOf x=l.idxOf y):x=y:=by
 have h1:=List.getElem_idxOf (List.idxOf_lt_length_of_mem hx)
 have h2:=List.getElem_idxOf (List.idxOf_lt_length_of_mem hy)
 rw[<-h1,<-h2]
 simp only[h]
theorem ClI.done {F:TF} {cls:List Int} {L:List (List UInt8)} (h:ClI F cls L) (hst:0<=F.st) (hl: ∀a∈F.arcs,0<=a.t/\a.t<F.st) (hr:dS F.arcs F.st.toNat=false) (hd:ClD F cls F.st.toNat 0):rG F cls:=by
 have hall: ∀j:Nat,j<F.st.toNat->0<=cls.getD j 0:=fun j hj=>hd j hj (.inl (LvA.all (fun a ha=>by have:=hl a ha;omega) hr ⟨by omega,by omega⟩))
 have hle:=h.le
 refine⟨h.len,fun j hj=>⟨hall j hj,by have:=(h.bd j).2 hj;omega⟩,fun i j hi hj=>?_⟩
 obtain⟨_,a2,a3⟩:=h.txt i hi (hall i hi)
 obtain⟨_,b2,b3⟩:=h.txt j hj (hall j hj)
 rw[a3,b3]
 constructor
 ·intro e;exact Ux a2 b2 (by omega)
 ·intro e;rw[e]
abbrev aDL (F:TF) (x:Glo) (cls:List Int) (es:List (ByteArray×Int×Nat)) (clk:Nat):List (Nat×SO):=hpF F++[(2,aF x),(3,.box 25 (aA F)),(4,.arr true 3 .int cls 0),(5,.map .str .int es clk)]
theorem ClD.put {F:TF} {cls:List Int} {r n:Nat} (h:ClD F cls r n) {v:Int} (hv:0<=v) (hn:n<cls.length):ClD F (cls.set n v) r (n+1):=by
 intro j hj hl
 rw[Cq _ _ _ _ hn]
 by_cases e:j=n
 ·rw[if_pos e];exact hv
 ·rw[if_neg e]
  exact h j hj (by rcases hl with h|⟨h1,h2⟩;exact .inl h;exact .inr ⟨by omega,h2⟩)
theorem Vm (F:TF) (hF:Hs F) (hr:dS F.arcs F.st.toNat=false) (x:Glo) (hx:gJ x):Ct Tryz.prog 128 [fV F] [] (hpF F++[(2,aF x)]) 3
  (fun v s=> ∃cls,rG F cls/\v= .c (.sl 3 1 0 cls.length cls.length)/\s=⟨[],[(2,aF x),(3,.arr true 3 .int cls 0)],4⟩):=by
 have hst:=hF.st
 have hst1:=hF.st1
 have hrg: ∀a∈F.arcs,0<=a.t/\a.t<F.st:=fun a ha=>(hF.arc a ha).2.2
 refine ctW Tryz.tyOk 10 [16,17,20,21] Tryz.func128 rfl (by simp) (by simp) (fr:= [(0,fV F)]) rfl ?_
 refine gO ?_
 refine cF (iG (-1) F.st 1 (by omega) (by omega)) [4] Tryz.call111 ?_
 rintro _ _ ⟨rfl,rfl⟩
 simp only[Nat.reduceAdd,Nat.reduceSub]
 refine gN ?_
 refine aJ (fun z:Nat×List Int×List (List UInt8)×List (ByteArray×Int×Nat)×Nat=>⟨[(1,.c (.ptr 3 0)),(3,.c (.sl 4 1 0 z.2.1.length z.2.1.length)),(4,.c (.mp 5)),(16,.i F.st),(17,.i z.1)],aDL F x z.2.1 z.2.2.2.1 z.2.2.2.2,6⟩)
  (fun z=>z.1<=F.st.toNat/\ClI F z.2.1 z.2.2.1/\Lw z.2.2.2.1 z.2.2.1/\ClD F z.2.1 z.1 0) (fun z=>F.st.toNat-z.1) (0,List.replicate F.st.toNat (-1),[],[],0) [(4,some 5),(5,some 6)] ⟨by rfl,?_,?_⟩ ⟨Nat.zero_le _,ClI.start hst.1,Lw.nil,fun j hj h=>(by
   rcases h with h|h
   ·have:=h [] _ _ (.nil _);simp at this
   ·omega)⟩ ?_
 ·simp
 ·simp[aA,aF]
 ·rintro⟨r,cls,L,es,clk⟩ ⟨hrr,hcl,hnt,hcd⟩
  simp only at hrr hcl hnt hcd⊢
  (conv=>whnf)
  refine aG (fun hr2=>?_) (fun hr2=>?_)
  ·refine gO ?_
   refine aJ (fun z:Nat×List Int×List (List UInt8)×List (ByteArray×Int×Nat)×Nat=>⟨[(1,.c (.ptr 3 0)),(3,.c (.sl 4 1 0 z.2.1.length z.2.1.length)),(4,.c (.mp 5)),(16,.i F.st),(17,.i r),(20,.i F.st),(21,.i z.1)],aDL F x z.2.1 z.2.2.2.1 z.2.2.2.2,6⟩)
    (fun z=>z.1<=F.st.toNat/\ClI F z.2.1 z.2.2.1/\Lw z.2.2.2.1 z.2.2.1/\ClD F z.2.1 r z.1) (fun z=>F.st.toNat-z.1) (0,cls,L,es,clk) [] ⟨by rfl,?_,?_⟩ ⟨Nat.zero_le _,hcl,hnt,hcd⟩ ?_
   ·simp
   ·simp[aA,aF]
   ·clear hcl hnt hcd cls L es clk
    rintro⟨n,cls,L,es,clk⟩ ⟨hn,hcl,hnt,hcd⟩
    simp only at hn hcl hnt hcd⊢
    (conv=>whnf)
    refine aG (fun hn2=>?_) (fun hn2=>?_)
    ·have e0:0+(n:Int).toNat=n:=by omega
     have hlen:=hcl.len
     have hle:=hcl.le
     have hcb: ∀c∈cls,-1<=c/\c<=1000:=fun c hc=>by
      obtain⟨j,hj,rfl⟩:=List.mem_iff_getElem.1 hc
      have:=hcl.bd j
      have e:cls.getD j 0=cls[j]:=by simp[List.getD,hj]
      rw[e]at this
      have:=this.2 (by omega)
      omega
     refine gO ?_
     refine cF (aCC F hF cls cls.length hcb (n:Int) (by omega) hlen x hx) [0,1,4,2] Tryz.call144 ?_
     rintro _ _ ⟨rfl,rfl⟩
     unfold Py
     by_cases hok:lN F cls n F.arcs.length=true
     ·rw[if_pos hok]
      have hlk:=hnt.lk (sgB F cls n F.arcs.length)
      have hput:=fun L'=>hcl.put (n:=n) (L':=L') (by omega) hrg
      generalize hsg:sgB F cls n F.arcs.length=sg at*
      simp only[Nat.reduceAdd,Nat.reduceSub]
      refine gI ?_
      refine⟨fun h=>⟨fun h=>?_,fun h=>?_⟩,fun h=>?_⟩
      ·rename_i g
       rw[e0]at g
       have g:cls.getD n 0<0:=g
       have hno:sg∉L:=fun c=>by
        rw[hlk,if_pos c]at h
        simp at h
       have hnew:=hnt.new hno clk
       rw[<-hnt.len]at hnew
       have hcl2:=hput (L++[sg]) g hok (.inr ⟨hno,rfl⟩)
       have hix:(L++[sg]).idxOf sg=es.length:=by rw[gW hno,hnt.len];simp
       have hlk2:(@lkM EK.str.ty EK.int.ty (EK.instDeq .str) (@bL EK.str.ty EK.int.ty (EK.instDeq .str) es clk (bs sg) ((es.length:Nat):Int)).1 (bs sg))=some ((es.length:Nat):Int):=by rw[fZ,if_pos rfl]
       (conv=>whnf)
       rw[hlk2]
       refine⟨(n+1,cls.set n ((L++[sg]).idxOf sg:Nat),L++[sg],(@bL EK.str.ty EK.int.ty (EK.instDeq .str) es clk (bs sg) ((es.length:Nat):Int)).1,(@bL EK.str.ty EK.int.ty (EK.instDeq .str) es clk (bs sg) ((es.length:Nat):Int)).2),[],⟨by rfl,?_,?_⟩,⟨by simp only;omega,hcl2,hnew,hcd.put (by omega) (by omega)⟩,by simp only;omega⟩
       ·simp
       ·simp[aA,aF,hix,e0]
      ·rename_i g
       rw[e0]at g
       have g:cls.getD n 0<0:=g
       have hin:sg∈L:=Classical.byContradiction fun c=>by
        rw[hlk,if_neg c]at h
        simp at h
       rw[if_pos hin]at hlk
       have hcl2:=hput L g hok (.inl ⟨hin,rfl⟩)
       (conv=>whnf)
       rw[hlk]
       refine⟨(n+1,cls.set n (L.idxOf sg:Nat),L,es,clk),[],⟨by rfl,?_,?_⟩,⟨by simp only;omega,hcl2,hnt,hcd.put (by omega) (by omega)⟩,by simp only;omega⟩
       ·simp
       ·simp[aA,aF,e0]
      ·rw[e0]at h
       have g: ¬cls.getD n 0<0:=h
       (conv=>whnf)
       refine⟨(n+1,cls,L,es,clk),[],⟨by rfl,?_,?_⟩,⟨by simp only;omega,hcl,hnt,fun j hj h=>?_⟩,by simp only;omega⟩
       ·simp
       ·simp[aA,aF]
       ·by_cases e:j=n
        ·rw[e];show 0<=cls.getD n 0;omega
        ·simp only at h
         exact hcd j hj (by rcases h with h|⟨h1,h2⟩;exact .inl h;exact .inr ⟨by omega,h2⟩)
     ·rw[if_neg hok]
      simp only[Nat.reduceAdd,Nat.reduceSub]
      refine gO ?_
      refine⟨(n+1,cls,L,es,clk),[],⟨by rfl,?_,?_⟩,⟨by simp only;omega,hcl,hnt,fun j hj h=>?_⟩,by simp only;omega⟩
      ·simp
      ·simp[aA,aF]
      ·by_cases e:j=n
       ·subst e
        rcases h with h|⟨_,h⟩
        ·exact hcd j hj (.inl h)
        ·exact absurd (Ie.2 fun i hi he=>by
          have hm:=aB F.arcs i aD hi
          have hb:=hF.arc _ hm
          have:=LvA.on hm (he▸h)
          exact hcd _ (by omega) (.inl (by rw[show((((F.arcs.getD i aD).t.toNat:Nat)):Int)=(F.arcs.getD i aD).t by omega];exact this))) hok
       ·simp only at h
        exact hcd j hj (by rcases h with h|⟨h1,h2⟩;exact .inl h;exact .inr ⟨by omega,h2⟩)
    ·have e:n=F.st.toNat:=by omega
     subst e
     refine gO ?_
     refine⟨(r+1,cls,L,es,clk),[],⟨by rfl,?_,?_⟩,⟨by simp only;omega,hcl,hnt,fun j hj h=>?_⟩,by simp only;omega⟩
     ·simp
     ·simp[aA,aF]
     ·simp only at h
      rcases h with h|h
      ·exact hcd j hj (.inr ⟨hj,h⟩)
      ·omega
  ·have e:r=F.st.toNat:=by omega
   subst e
   refine gO ?_
   refine⟨[(3,some 4)],[(2,aF x),(3,.arr true 3 .int cls 0)],4,.c (.sl 3 1 0 cls.length cls.length),⟨by rfl,trivial,by simp[aF]⟩,by simp,cls,hcl.done hst.1 hrg hr hcd,rfl,rfl⟩
abbrev cMg (D:TF) (cn cc li ln lc:Nat) (ost osr:Int) (fi fn fc ai an ac:Nat):List SC:= [.i D.st,.i D.start,.sl 0 1 0 D.fin.length D.capF,.sl 1 5 0 D.arcs.length D.capA,.sl 3 1 0 cn cc,.mp 4,.sl li 1 0 ln lc,.i ost,.i osr,.sl fi 1 0 fn fc,.sl ai 5 0 an ac]
structure Cc (es:List (Int×Int×Nat)) (C:List Int):Prop where
 len:es.length=C.length
 lk: ∀c,@lkM EK.int.ty EK.int.ty (EK.instDeq .int) es c=if c∈C then some ((C.idxOf c:Nat):Int)else none
theorem Cc.nil:Cc [] []:=⟨rfl,fun t=>by simp[lkM]⟩
theorem Cc.new {es:List (Int×Int×Nat)} {C:List Int} (h:Cc es C) {c:Int} (hs:c∉C) (clk:Nat):Cc (@bL EK.int.ty EK.int.ty (EK.instDeq .int) es clk c ((C.length:Nat):Int)).1 (C++[c]):=by
 have hn: ¬(@lkM EK.int.ty EK.int.ty (EK.instDeq .int) es c).isSome=true:=by rw[h.lk c,if_neg hs];simp
 refine⟨?_,fun t=>?_⟩
 ·unfold bL
  rw[if_neg hn]
  simp[h.len]
 ·rw[fZ]
  by_cases e:t=c
  ·subst e
   rw[if_pos rfl,if_pos (by simp),gW hs]
   simp
  ·rw[if_neg e,h.lk t]
   by_cases hx:t∈C
   ·rw[if_pos hx,if_pos (by simp[hx]),pE hx]
   ·rw[if_neg hx,if_neg (by simp[hx,e])]
def clA (cls:List Int) (s:Int):Int:=cls.getD s.toNat 0
def mgL (cls:List Int) (left:List Int) (s:Int):List Int:=if clA cls s∈left.map (clA cls)then left else left++[s]
def mgN (cls:List Int) (left:List Int) (s:Int):Int:=(((mgL cls left s).map (clA cls)).idxOf (clA cls s):Nat)
def fiA (D:TF) (s:Int):Int:=D.fin.getD s.toNat 0
abbrev Uz (D:TF) (cls left:List Int) (es:List (Int×Int×Nat)) (clk:Nat) (lsp fsp:Nat) (ost osr:Int) (li fi ai an ac:Nat) (cc:Nat):List (Nat×SO):=
 [(2,.box 161 (cMg D cls.length cc li left.length (left.length+lsp) ost osr fi (left.map (fiA D)).length ((left.map (fiA D)).length+fsp) ai an ac)),(4,.map .int .int es clk),(li,.arr true 3 .int left lsp),(fi,.arr true 3 .int (left.map (fiA D)) fsp)]
theorem De (D:TF) (hD:FRng D) (cls left:List Int) (hcl:(cls.length:Int)=D.st) (hll:left.length<=100000) (es:List (Int×Int×Nat)) (clk lsp fsp:Nat) (ost osr:Int) (an ac cc:Nat) (s:Int) (hs:0<=s/\s<D.st) (hn:Cc es (left.map (clA cls))):
  Ct Tryz.prog 145 [.c (.ptr 2 0),.i s] [] ([(0,.arr false 3 .int D.fin 0),(3,.arr false 3 .int cls 0)]++Uz D cls left es clk lsp fsp ost osr 5 6 7 an ac cc) 8
   (fun v t=> ∃es' clk' lsp' fsp',Cc es' ((mgL cls left s).map (clA cls))/\v= .i (mgN cls left s)/\t=⟨[],Uz D cls (mgL cls left s) es' clk' lsp' fsp' ost osr 8 9 7 an ac cc,10⟩):=by
 have hst:=hD.st
 have hfl:=hD.finl
 have hlk:=hn.lk (clA cls s)
 have hes:=hn.len
 rw[List.length_map]at hes
 have ec:cls.getD (0+s.toNat) EK.int.dflt=clA cls s:=by rw[Nat.zero_add];rfl
 refine ctW Tryz.tyOk 9 [] Tryz.func145 rfl (by simp) (by simp) (fr:= [(0,.c (.ptr 2 0)),(1,.i s)]) rfl ?_
 refine gO ?_
 refine⟨fun h=>?_,fun h=>?_⟩
 ·rw[ec]at h
  have hin:clA cls s∈left.map (clA cls):=Classical.byContradiction fun c=>by
   rw[hlk,if_neg c]at h
   simp at h
  rw[if_pos hin]at hlk
  have e1:mgL cls left s=left:=by unfold mgL;rw[if_pos hin]
  have e2:mgN cls left s=((left.map (clA cls)).idxOf (clA cls s):Nat):=by unfold mgN;rw[e1]
  refine gO ?_
  rw[ec,hlk]
  refine⟨[(8,some 5),(9,some 6)],Uz D cls left es clk lsp fsp ost osr 8 9 7 an ac cc,10,.i (mgN cls left s),⟨by rfl,trivial,by simp⟩,?_,es,clk,lsp,fsp,by rw[e1];exact hn,rfl,by rw[e1]⟩
  simp only[eqV,eqA,eqC,Option.getD_some,e2]
 ·rw[ec]at h
  have hno:clA cls s∉left.map (clA cls):=fun c=>by
   rw[hlk,if_pos c]at h
   simp at h
  have hnew:=hn.new hno clk
  rw[List.length_map,<-hes]at hnew
  have e1:mgL cls left s=left++[s]:=by unfold mgL;rw[if_neg hno]
  have e3:(mgL cls left s).map (clA cls)=left.map (clA cls)++[clA cls s]:=by rw[e1,List.map_append];rfl
  have e2:mgN cls left s=es.length:=by unfold mgN;rw[e3,gW hno,List.length_map,hes];simp
  have e4:(mgL cls left s).map (fiA D)=left.map (fiA D)++[fiA D s]:=by rw[e1,List.map_append];rfl
  have ef:D.fin.getD (0+s.toNat) EK.int.dflt=fiA D s:=by rw[Nat.zero_add];rfl
  refine gI ?_
  intro _ _
  rename_i sp1 sp2
  rw[ec,ef]
  rw[<-e3]at hnew
  refine⟨[(8,some 9),(9,some 11)],Uz D cls (mgL cls left s) (@bL EK.int.ty EK.int.ty (EK.instDeq .int) es clk (clA cls s) ((es.length:Nat):Int)).1 (@bL EK.int.ty EK.int.ty (EK.instDeq .int) es clk (clA cls s) ((es.length:Nat):Int)).2 sp1 sp2 ost osr 8 9 7 an ac cc,10,.i (mgN cls left s),⟨by rfl,trivial,?_⟩,?_,_,_,sp1,sp2,hnew,rfl,rfl⟩
  ·rw[e1]
   simp[aV]
  ·simp only[eqV,eqA,eqC,e2]
def mU (cls:List Int) (i:Nat) (s:Int) (st:List Int×List Arc) (a:Arc):List Int×List Arc:=if a.f=s then(mgL cls st.1 a.t,st.2++[⟨(i:Nat),a.i,a.o,mgN cls st.1 a.t,a.w⟩])else st
def mgP (D:TF) (cls:List Int) (i:Nat) (s:Int) (st:List Int×List Arc):Nat->List Int×List Arc
 |0=>st
 |k+1=>mU cls i s (mgP D cls i s st k) (D.arcs.getD k aD)
def bP (D:TF) (cls:List Int):Nat->List Int×List Arc
 |0=>([D.start],[])
 |i+1=>mgP D cls i ((bP D cls i).1.getD i 0) (bP D cls i) D.arcs.length
structure MgI (D:TF) (cls:List Int) (st:List Int×List Arc):Prop where
 rng: ∀s∈st.1,0<=s/\s<D.st
 nd:(st.1.map (clA cls)).Nodup
 pos:1<=st.1.length
 w: ∀a∈st.2,0<=a.w/\a.w<=10000000000000
theorem Rb (cls left:List Int) (s:Int): ∃M,mgL cls left s=left++M:=by
 unfold mgL
 split
 ·exact⟨[],by simp⟩
 ·exact⟨[s],rfl⟩
theorem MgI.le {D:TF} {cls:List Int} {st:List Int×List Arc} (h:MgI D cls st) (hst:0<=D.st) (hc: ∀j,j<D.st.toNat->0<=cls.getD j 0/\cls.getD j 0<D.st):st.1.length<=D.st.toNat:=by
 have:=Je h.nd (m:=(List.range D.st.toNat).map fun j:Nat=>(j:Int)) fun c hcm=>by
  obtain⟨s,hs,rfl⟩:=List.mem_map.1 hcm
  have h1:=h.rng s hs
  have h2:=hc s.toNat (by omega)
  rw[List.mem_map]
  exact⟨(clA cls s).toNat,List.mem_range.2 (by unfold clA;omega),by unfold clA;omega⟩
 simpa using this
theorem MgI.num {D:TF} {cls:List Int} {st:List Int×List Arc} (h:MgI D cls st) {s:Int} (hs:0<=s/\s<D.st):MgI D cls (mgL cls st.1 s,st.2):=by
 refine⟨fun x hx=>?_,?_,?_,h.w⟩
 ·simp only[mgL]at hx
  split at hx
  ·exact h.rng x hx
  ·rcases List.mem_append.1 hx with hx|hx
   ·exact h.rng x hx
   ·rw[List.mem_singleton]at hx;rw[hx];exact hs
 ·simp only[mgL]
  split
  ·exact h.nd
  ·rename_i hn
   rw[List.map_append,List.nodup_append]
   refine⟨h.nd,by simp,fun a ha b hb=>?_⟩
   simp only[List.map_cons,List.map_nil,List.mem_singleton]at hb
   exact fun e=>hn (by rw[<-hb,<-e];exact ha)
 ·obtain⟨M,hM⟩:=Rb cls st.1 s
  simp only[hM,List.length_append]
  have:=h.pos
  omega
theorem MgI.step {D:TF} {cls:List Int} {st:List Int×List Arc} (h:MgI D cls st) {i:Nat} {s:Int} {a:Arc} (ha:0<=a.t/\a.t<D.st) (hw:0<=a.w/\a.w<=10000000000000):MgI D cls (mU cls i s st a):=by
 unfold mU
 split
 ·have:=h.num ha
  refine⟨this.rng,this.nd,this.pos,fun b hb=>?_⟩
  rcases List.mem_append.1 hb with hb|hb
  ·exact h.w b hb
  ·rw[List.mem_singleton]at hb;rw[hb];exact hw
 ·exact h
theorem xQ {D:TF} {cls:List Int} {i:Nat} {s:Int} {st:List Int×List Arc}: ∀k,(mgP D cls i s st k).2.length<=st.2.length+k/\ ∃M,(mgP D cls i s st k).1=st.1++M
 |0=>⟨Nat.le_refl _,[],by simp[mgP]⟩
 |k+1=>by
  obtain⟨h1,M,h2⟩:=xQ (D:=D) (cls:=cls) (i:=i) (s:=s) (st:=st) k
  unfold mgP mU
  split
  ·obtain⟨N,hN⟩:=Rb cls (mgP D cls i s st k).1 (D.arcs.getD k aD).t
   simp only[List.length_append,List.length_singleton]
   exact⟨by omega,M++N,by rw[hN,h2,List.append_assoc]⟩
  ·exact⟨by omega,M,h2⟩
def adA (more:Int) (a:Arc):Arc:=if a.f=0 then⟨a.f,a.i,a.o,a.t,a.w+more⟩else a
def adK (more:Int) (l:List Arc) (k:Nat):List Arc:=(l.take k).map (adA more)++l.drop k
def adF (more:Int) (l:List Int):List Int:=if l.getD 0 0= -1 then l else l.set 0 (l.getD 0 0+more)
theorem Hp (more:Int) (l:List Arc) (k:Nat):(adK more l k).length=l.length:=by simp[adK];omega
theorem aB5 {more:Int} {l:List Arc} {k:Nat} (h:k<l.length):(adK more l k).getD k aD=l.getD k aD:=by
 unfold adK
 simp only[List.getD]
 rw[List.getElem?_append_right (by simp;omega)]
 simp[Nat.min_eq_left (Nat.le_of_lt h)]
theorem aB4 {more:Int} {l:List Arc} {k:Nat} (h:k<l.length):(adK more l k).set k (adA more (l.getD k aD))=adK more l (k+1):=by
 have e:l.drop k=l.getD k aD::l.drop (k+1):=by
  rw[List.drop_eq_getElem_cons h]
  simp[List.getD,h]
 have e2:l.take (k+1)=l.take k++[l.getD k aD]:=by
  rw[List.take_add_one]
  simp[List.getD,h]
 have hl:((l.take k).map (adA more)).length=k:=by simp;omega
 unfold adK
 rw[e,e2,List.map_append,List.append_assoc,List.set_append_right _ _ (by omega),hl,Nat.sub_self]
 rfl
theorem aB6 (more:Int) (l:List Arc):adK more l l.length=l.map (adA more):=by simp[adK]
abbrev aD5 (D:TF) (cls left:List Int) (outs:List Arc) (es:List (Int×Int×Nat)) (clk lsp fsp asp cc:Nat) (n:Nat):List (Nat×SO):=
 hpF D++[(3,.arr false 3 .int cls 0),(8,.box 25 aW),(7,.arr true 55 .arc outs asp)]++Uz D cls left es clk lsp fsp (n:Int) 0 5 6 7 outs.length (outs.length+asp) cc
abbrev aCV (D:TF) (cls left:List Int) (outs:List Arc) (es:List (Int×Int×Nat)) (clk lsp fsp asp cc:Nat):List (Nat×SO):=
 hpF D++[(3,.arr false 3 .int cls 0),(8,.box 25 aW),(7,.arr true 55 .arc outs asp)]++Uz D cls left es clk lsp fsp 0 0 5 6 7 outs.length (outs.length+asp) cc
def Wc (D:TF) (cls:List Int) (more:Int) (v:SV) (s:S):Prop:= ∃(left:List Int) (outs:List Arc) (fsp asp:Nat),bP D cls left.length=(left,outs)/\(∀j,j<left.length->j<(bP D cls j).1.length)/\MgI D cls (left,outs)/\
 v= .a (.agg [.i (left.length:Nat),.i 0,.sl 5 1 0 (adF more (left.map (fiA D))).length ((adF more (left.map (fiA D))).length+fsp),.sl 6 5 0 (outs.map (adA more)).length ((outs.map (adA more)).length+asp)])/\
 s=⟨[],[(5,.arr true 3 .int (adF more (left.map (fiA D))) fsp),(6,.arr true 55 .arc (outs.map (adA more)) asp)],7⟩
structure MZ where
 left:List Int
 outs:List Arc
 es:List (Int×Int×Nat)
 clk:Nat
 lsp:Nat
 fsp:Nat
 asp:Nat
theorem aBq (D:TF) (hD:Hs D) (hs:0<=D.start/\D.start<D.st) (cls:List Int) (cc:Nat) (hcl:(cls.length:Int)=D.st) (hcb: ∀j,j<D.st.toNat->0<=cls.getD j 0/\cls.getD j 0<D.st) (more:Int) (hm:0<=more/\more<=10000000000000):
  Ct Tryz.prog 129 [.c (.ptr 2 0),.i more] [] (hpF D++[(2,.box 161 [.i D.st,.i D.start,.sl 0 1 0 D.fin.length D.capF,.sl 1 5 0 D.arcs.length D.capA,.sl 3 1 0 cls.length cc,.mp 4,.v (.slice none 0 0),.i 0,.i 0,.v (.slice none 0 0),.v (.slice none 0 0)]),(3,.arr false 3 .int cls 0),(4,.map .int .int [] 0)]) 5 (Wc D cls more):=by
 have hst:=hD.st
 have hst1:=hD.st1
 have hal:=hD.arc1
 have hfl:=hD.finl
 refine ctC Tryz.tyOk Tryz.func129 rfl (by simp) (by simp) (fr:= [(0,.c (.ptr 2 0)),(1,.i more)]) rfl ?_
 refine gH.cut Tryz.tyOk 10 [30,31,32,84,85] (fun _:Unit=>⟨[(0,.c (.ptr 2 0)),(1,.i more),(4,.c (.ptr 8 0))],aCV D cls [] [] [] 0 0 0 0 cc,9⟩) (fun _=>True) 1 _ _ ?_ ?_
 ·refine gO ?_
  refine⟨(),[(8,some 5),(5,none),(6,none),(7,none)],⟨by rfl,?_,?_⟩,trivial⟩
  ·simp
  ·simp[cT,aA]
 rintro _-
 refine gH.of Tryz.tyOk 10 [30,31,32,84,85] ?_
 refine gO ?_
 refine cF (De D hD.toFRng cls [] hcl (by simp) [] 0 0 0 0 0 0 0 cc D.start hs Cc.nil) [0,1,2,3,4,5,6,7] Tryz.call145 ?_
 have e1:mgL cls [] D.start=[D.start]:=by simp[mgL]
 rw[e1]
 rintro _ _ ⟨es,clk,lsp,fsp,hni,rfl,rfl⟩
 have hi0:MgI D cls (bP D cls 0):=⟨fun s h=>by simp only[bP,List.mem_singleton]at h;rw[h];exact hs,by simp[bP],by simp[bP],fun a h=>by simp[bP]at h⟩
 refine gO ?_
 refine aJ (fun z:Nat×MZ=>⟨[(0,.c (.ptr 2 0)),(1,.i more),(4,.c (.ptr 8 0)),(5,.i z.1)],aCV D cls z.2.left z.2.outs z.2.es z.2.clk z.2.lsp z.2.fsp z.2.asp cc,9⟩)
  (fun z=>z.1<=z.2.left.length/\bP D cls z.1=(z.2.left,z.2.outs)/\MgI D cls (z.2.left,z.2.outs)/\Cc z.2.es (z.2.left.map (clA cls))/\z.2.outs.length<=z.1*10000/\ ∀j,j<z.1->j<(bP D cls j).1.length) (fun z=>1000-z.1) (0,⟨[D.start],[],es,clk,lsp,fsp,0⟩) [(5,some 9),(6,some 10)] ⟨by rfl,?_,?_⟩ ⟨Nat.zero_le _,rfl,hi0,hni,Nat.zero_le _,fun j h=>absurd h (Nat.not_lt_zero _)⟩ ?_
 ·simp
 ·simp[aA]
 ·clear hni es clk lsp fsp
  rintro⟨i,⟨left,outs,es,clk,lsp,fsp,asp⟩⟩ ⟨hi,hrow,hinv,hni,hol,hml⟩
  simp only at hi hrow hinv hni hol hml⊢
  have hle:=hinv.le hst.1 hcb
  simp only at hle
  (conv=>whnf)
  refine aG (fun hi2=>?_) (fun hi2=>?_)
  ·refine gO ?_
   have hnx:bP D cls (i+1)=mgP D cls i (left.getD i 0) (left,outs) D.arcs.length:=by
    show mgP D cls i ((bP D cls i).1.getD i 0) (bP D cls i) D.arcs.length=_
    rw[hrow]
   refine aJ (fun z:Nat×MZ=>⟨[(0,.c (.ptr 2 0)),(1,.i more),(4,.c (.ptr 8 0)),(5,.i i),(30,.c (.sl 1 5 0 D.arcs.length D.capA)),(31,.i D.arcs.length),(32,.i z.1)],aCV D cls z.2.left z.2.outs z.2.es z.2.clk z.2.lsp z.2.fsp z.2.asp cc,9⟩)
    (fun z=>z.1<=D.arcs.length/\mgP D cls i (left.getD i 0) (left,outs) z.1=(z.2.left,z.2.outs)/\MgI D cls (z.2.left,z.2.outs)/\Cc z.2.es (z.2.left.map (clA cls))) (fun z=>D.arcs.length-z.1) (0,⟨left,outs,es,clk,lsp,fsp,asp⟩) [] ⟨by rfl,?_,?_⟩ ⟨Nat.zero_le _,rfl,hinv,hni⟩ ?_
   ·simp
   ·simp[aA]
   ·clear hni hinv es clk lsp fsp asp
    rintro⟨k,⟨lk,ok,es,clk,lsp,fsp,asp⟩⟩ ⟨hk,hrk,hinv,hni⟩
    simp only at hk hrk hinv hni⊢
    have hlk:=hinv.le hst.1 hcb
    obtain⟨hpl,M,hM⟩:=xQ (D:=D) (cls:=cls) (i:=i) (s:=left.getD i 0) (st:=(left,outs)) k
    have hks:mgP D cls i (left.getD i 0) (left,outs) (k+1)=mU cls i (left.getD i 0) (mgP D cls i (left.getD i 0) (left,outs) k) (D.arcs.getD k aD):=rfl
    rw[hrk]at hpl hM hks
    simp only at hpl hM hlk
    have hgi:lk.getD (0+(i:Int).toNat) EK.int.dflt=left.getD i 0:=by
     rw[show 0+(i:Int).toNat=i by omega,hM]
     simp only[List.getD]
     rw[List.getElem?_append_left (by omega)]
     rfl
    have hll:i<lk.length:=by rw[hM,List.length_append];omega
    (conv=>whnf)
    refine aG (fun hk2=>?_) (fun hk2=>?_)
    ·have ek:0+(k:Int).toNat=k:=by omega
     have hax:D.arcs.getD (0+(k:Int).toNat) EK.arc.dflt=D.arcs.getD k aD:=by rw[ek];rfl
     have hma:=aB D.arcs k aD (by omega)
     have hb1:=hD.arc _ hma
     have hb2:=hD.w _ hma
     rw[<-hax]at hb1 hb2 hks
     have hstep:=hinv.step (i:=i) (s:=left.getD i 0) ⟨hb1.2.2.1,hb1.2.2.2⟩ hb2
     generalize hsv:left.getD i 0=sv at*
     rw[<-hgi]at hks hstep
     refine gO ?_
     refine⟨fun h=>?_,fun h=>?_⟩
     ·unfold mU at hks hstep
      rw[if_pos h]at hks hstep
      simp only at hks hstep
      (conv=>whnf)
      refine cF (De D hD.toFRng cls lk hcl (by omega) es clk lsp fsp 0 0 ok.length (ok.length+asp) cc (D.arcs.getD (0+(k:Int).toNat) EK.arc.dflt).t hb1.2.2 hni) [0,1,2,3,4,5,6,7] Tryz.call145 ?_
      rintro _ _ ⟨es2,clk2,lsp2,fsp2,hni2,rfl,rfl⟩
      generalize hmn:mgN cls lk (D.arcs.getD (0+(k:Int).toNat) EK.arc.dflt).t=mn at*
      simp only[Nat.reduceAdd,Nat.reduceSub]
      refine gI fun _=>?_
      rename_i sp2
      refine⟨(k+1,⟨mgL cls lk (D.arcs.getD (0+(k:Int).toNat) EK.arc.dflt).t,ok++[⟨(i:Nat),(D.arcs.getD (0+(k:Int).toNat) EK.arc.dflt).i,(D.arcs.getD (0+(k:Int).toNat) EK.arc.dflt).o,mn,(D.arcs.getD (0+(k:Int).toNat) EK.arc.dflt).w⟩],es2,clk2,lsp2,fsp2,sp2⟩),[(5,some 10),(6,some 11),(7,some 13)],⟨by rfl,?_,?_⟩,⟨by simp only;omega,by rw[<-hgi];exact hks,hstep,hni2⟩,by simp only;omega⟩
      ·simp
      ·simp[aA,aV]
     ·unfold mU at hks hstep
      rw[if_neg h]at hks hstep
      (conv=>whnf)
      refine⟨(k+1,⟨lk,ok,es,clk,lsp,fsp,asp⟩),[],⟨by rfl,?_,?_⟩,⟨by simp only;omega,by rw[<-hks,hgi],hinv,hni⟩,by simp only;omega⟩
      ·simp
      ·simp[aA]
    ·have e:k=D.arcs.length:=by omega
     subst e
     rw[hrk]at hnx
     refine gO ?_
     refine⟨(i+1,⟨lk,ok,es,clk,lsp,fsp,asp⟩),[],⟨by rfl,?_,?_⟩,⟨by simp only;omega,hnx,hinv,hni,by simp only;omega,fun j hj=>by
      by_cases ej:j=i
      ·rw[ej,hrow];exact(show i<left.length by omega)
      ·exact hml j (by simp only at hj;omega)⟩,by simp only;omega⟩
     ·simp
     ·simp[aA]
  ·have e:i=left.length:=by omega
   subst e
   have hel:=hni.len
   rw[List.length_map]at hel
   have hpo:=hinv.pos
   simp only at hpo
   have hll:outs.length<=10000000:=by omega
   refine gO ?_
   refine aJ (fun k:Nat=>⟨[(0,.c (.ptr 2 0)),(1,.i more),(4,.c (.ptr 8 0)),(84,.i outs.length),(85,.i k)],aD5 D cls left (adK more outs k) es clk lsp fsp asp cc left.length,9⟩)
    (fun k=>k<=outs.length) (fun k=>outs.length-k) 0 [] ⟨by rfl,?_,?_⟩ (Nat.zero_le _) ?_
   ·simp
   ·simp[aA,adK,hel]
   ·intro k hk
    have hal2:=Hp more outs k
    (conv=>whnf)
    refine aG (fun hk2=>?_) (fun hk2=>?_)
    ·have ek:0+(k:Int).toNat=k:=by omega
     have hset:=aB4 (more:=more) (l:=outs) (show k<outs.length by omega)
     have hget:=aB5 (more:=more) (l:=outs) (show k<outs.length by omega)
     have hwb:=hinv.w _ (aB outs k aD (by omega))
     rw[<-hget]at hset hwb
     rw[<-Hp more outs k]at hk2
     generalize hgk:adK more outs k=ak at*
     have hax:ak.getD (0+(k:Int).toNat) EK.arc.dflt=ak.getD k aD:=by rw[ek];rfl
     rw[<-hax]at hset hwb
     refine gO ?_
     refine⟨fun h=>?_,fun h=>?_⟩
     ·have hs2:ak.set (0+(k:Int).toNat) ⟨(ak.getD (0+(k:Int).toNat) EK.arc.dflt).f,(ak.getD (0+(k:Int).toNat) EK.arc.dflt).i,(ak.getD (0+(k:Int).toNat) EK.arc.dflt).o,(ak.getD (0+(k:Int).toNat) EK.arc.dflt).t,(ak.getD (0+(k:Int).toNat) EK.arc.dflt).w+more⟩=adK more outs (k+1):=by
       rw[<-hset,show 0+(k:Int).toNat=k from ek]
       rw[show 0+(k:Int).toNat=k from ek]at h
       unfold adA
       rw[if_pos h]
      have hl2:=Hp more outs (k+1)
      (conv=>whnf)
      rw[hs2]
      refine⟨k+1,[],⟨by rfl,?_,?_⟩,by omega,by omega⟩
      ·simp
      ·simp[aA,hl2,hal2]
     ·have hs2:ak=adK more outs (k+1):=by
       rw[<-hset,show 0+(k:Int).toNat=k from ek]
       rw[show 0+(k:Int).toNat=k from ek]at h
       unfold adA
       rw[if_neg h]
       have hk3:k<ak.length:=by omega
       simp only[List.getD,List.getElem?_eq_getElem hk3,Option.getD_some]
       exact(List.set_getElem_self hk3).symm
      (conv=>whnf)
      refine⟨k+1,[],⟨by rfl,?_,?_⟩,by omega,by omega⟩
      ·simp
      ·rw[<-hs2]
       simp[aA]
    ·have e:k=outs.length:=by omega
     subst e
     rw[aB6]
     have hlf:(left.map (fiA D)).length=left.length:=List.length_map _
     have hlo:(outs.map (adA more)).length=outs.length:=List.length_map _
     have hfv: -1<=(left.map (fiA D)).getD 0 0/\(left.map (fiA D)).getD 0 0<=10000000000000:=by
      have h0:=hinv.rng _ (aB left 0 0 hpo)
      have e:(left.map (fiA D)).getD 0 0=fiA D (left.getD 0 0):=by
       have:0<left.length:=hpo
       simp[List.getD,this]
      rw[e]
      exact hD.fin _ (aB D.fin _ 0 (by omega))
     have hfv2: -1<=(left.map (fiA D)).getD (0+Int.toNat 0) EK.int.dflt/\(left.map (fiA D)).getD (0+Int.toNat 0) EK.int.dflt<=10000000000000:=hfv
     have hal1:(adF more (left.map (fiA D))).length=left.length:=by unfold adF;split<;>simp
     generalize hos:outs.map (adA more)=os at*
     refine gO ?_
     refine⟨fun h=>?_,fun h=>?_⟩
     ·have haf:(left.map (fiA D)).set (0+Int.toNat 0) ((left.map (fiA D)).getD (0+Int.toNat 0) EK.int.dflt+more)=adF more (left.map (fiA D)):=by
       have h: ¬(left.map (fiA D)).getD 0 0= -1:=h
       unfold adF
       rw[if_neg h]
       rfl
      (conv=>whnf)
      rw[haf]
      refine⟨[(5,some 6),(6,some 7)],[(5,.arr true 3 .int (adF more (left.map (fiA D))) fsp),(6,.arr true 55 .arc os asp)],7,.a (.agg [.i (left.length:Nat),.i 0,.sl 5 1 0 (adF more (left.map (fiA D))).length ((adF more (left.map (fiA D))).length+fsp),.sl 6 5 0 os.length (os.length+asp)]),⟨by rfl,trivial,by simp⟩,by simp[hal1],left,outs,fsp,asp,hrow,hml,hinv,by rw[hos],by rw[hos]⟩
     ·have haf:left.map (fiA D)=adF more (left.map (fiA D)):=by
       have h:(left.map (fiA D)).getD 0 0= -1:=h
       unfold adF
       rw[if_pos h]
      (conv=>whnf)
      refine⟨[(5,some 6),(6,some 7)],[(5,.arr true 3 .int (adF more (left.map (fiA D))) fsp),(6,.arr true 55 .arc os asp)],7,.a (.agg [.i (left.length:Nat),.i 0,.sl 5 1 0 (adF more (left.map (fiA D))).length ((adF more (left.map (fiA D))).length+fsp),.sl 6 5 0 os.length (os.length+asp)]),⟨by rfl,trivial,?_⟩,by simp[hal1],left,outs,fsp,asp,hrow,hml,hinv,by rw[hos],by rw[hos]⟩
      rw[<-haf]
      simp
def Fx (F:TF) (cls:List Int) (n:Int):Nat->List (Int×Int×Int)
 |0=> []
 |k+1=>if(F.arcs.getD k aD).f=n then Fx F cls n k++[((F.arcs.getD k aD).i,(F.arcs.getD k aD).w,cls.getD (F.arcs.getD k aD).t.toNat 0)]else Fx F cls n k
def Gz (x:Int×Int×Int):List UInt8:=32::(Lib.itoa x.1++58::(Lib.itoa x.2.1++58::Lib.itoa x.2.2))
theorem Ff (F:TF) (cls:List Int) (n:Int): ∀k,sgB F cls n k=Lib.itoa (F.fin.getD n.toNat 0)++(Fx F cls n k).flatMap Gz
 |0=>by simp[sgB,Fx]
 |k+1=>by
  unfold sgB Fx
  rw[Ff F cls n k]
  split
  ·rw[List.flatMap_append,<-List.append_assoc]
   simp[Gz,sgA]
  ·rfl
def NN (x:Int×Int×Int):Prop:=0<=x.1/\0<=x.2.1/\0<=x.2.2
theorem Js:Lib.itoa (-1)=[45,49]:=by decide+kernel
theorem uB {n:Int} (hn: -1<=n) {x:UInt8} (hx:x.toNat<45\/57<x.toNat):x∉Lib.itoa n:=fun h=>by
 by_cases h0:0<=n
 ·have:=rW h0 x h
  omega
 ·have:n= -1:=by omega
  rw[this,Js]at h
  simp only[List.mem_cons,List.not_mem_nil,or_false]at h
  rcases h with rfl|rfl
  ·revert hx;decide
  ·revert hx;decide
theorem Du {n m:Int} (hn: -1<=n) (hm: -1<=m) (h:Lib.itoa n=Lib.itoa m):n=m:=by
 have key: ∀k:Int,0<=k->Lib.itoa (-1)≠Lib.itoa k:=fun k hk e=>by
  have h1:(45:UInt8)∈Lib.itoa k:=by rw[<-e,Js];simp
  have:=rW hk _ h1
  revert this;decide
 by_cases h0:0<=n<;>by_cases h1:0<=m
 ·exact pD h0 h1 h
 ·have:m= -1:=by omega
  subst this;exact absurd h.symm (key n h0)
 ·have:n= -1:=by omega
  subst this;exact absurd h (key m h1)
 ·omega
theorem Xi: ∀ {l m:List (Int×Int×Int)} {a b:Int},-1<=a-> -1<=b->(∀x∈l,NN x)->(∀x∈m,NN x)->Lib.itoa a++l.flatMap Gz=Lib.itoa b++m.flatMap Gz->a=b/\l=m
 | [],[],a,b,ha,hb,_,_,h=>by
   simp only[List.flatMap_nil,List.append_nil]at h
   exact⟨Du ha hb h,rfl⟩
 | [],y::m,a,b,ha,hb,_,_,h=>by
   exfalso
   simp only[List.flatMap_nil,List.append_nil,List.flatMap_cons,Gz]at h
   have:(32:UInt8)∈Lib.itoa a:=by rw[h];simp
   exact uB ha (by decide) this
 |x::l,[],a,b,ha,hb,_,_,h=>by
  exfalso
  simp only[List.flatMap_nil,List.append_nil,List.flatMap_cons,Gz]at h
  have:(32:UInt8)∈Lib.itoa b:=by rw[<-h];simp
  exact uB hb (by decide) this
 |x::l,y::m,a,b,ha,hb,hl,hm,h=>by
  obtain⟨x1,x2,x3⟩:=hl x (by simp)
  obtain⟨y1,y2,y3⟩:=hm y (by simp)
  have e: ∀(z:Int×Int×Int) (t:List (Int×Int×Int)),(z::t).flatMap Gz=32::(Lib.itoa z.1++58::(Lib.itoa z.2.1++58::(Lib.itoa z.2.2++t.flatMap Gz))):=fun z t=>by simp[Gz]
  rw[e,e]at h
  obtain⟨g1,g2⟩:=wE (uB ha (by decide)) (uB hb (by decide)) h
  obtain⟨g3,g4⟩:=wE (lJ x1 (by decide)) (lJ y1 (by decide)) g2
  obtain⟨g5,g6⟩:=wE (lJ x2 (by decide)) (lJ y2 (by decide)) g4
  obtain⟨g7,g8⟩:=Xi (l:=l) (m:=m) (a:=x.2.2) (b:=y.2.2) (by omega) (by omega) (fun z hz=>hl z (by simp[hz])) (fun z hz=>hm z (by simp[hz])) g6
  refine⟨Du ha hb g1,?_⟩
  have h1:=pD x1 y1 g3
  have h2:=pD x2 y2 g5
  obtain⟨p,q,r⟩:=x
  obtain⟨p',q',r'⟩:=y
  simp only at h1 h2 g7
  rw[h1,h2,g7,g8]
theorem Fv {F:TF} {cls:List Int} {n:Int} (hF:Hs F) (hc: ∀j,j<F.st.toNat->0<=cls.getD j 0): ∀k,k<=F.arcs.length-> ∀x∈Fx F cls n k,NN x
 |0,_=>fun x hx=>by cases hx
 |k+1,hk=>by
  have ih:=Fv (n:=n) hF hc k (by omega)
  have hm:=aB F.arcs k aD (by omega)
  have h1:=hF.i _ hm
  have h2:=hF.w _ hm
  have h3:=hF.arc _ hm
  have h4:=hc (F.arcs.getD k aD).t.toNat (by omega)
  unfold Fx
  split
  ·intro x hx
   rcases List.mem_append.1 hx with hx|hx
   ·exact ih x hx
   ·rw[List.mem_singleton]at hx
    subst hx
    exact⟨h1.1,h2.1,h4⟩
  ·exact ih
theorem rG.iff {F:TF} {cls:List Int} (h:rG F cls) (hF:Hs F) {i j:Nat} (hi:i<F.st.toNat) (hj:j<F.st.toNat):
  cls.getD i 0=cls.getD j 0 <-> F.fin.getD i 0=F.fin.getD j 0/\Fx F cls i F.arcs.length=Fx F cls j F.arcs.length:=by
 rw[h.eq i j hi hj,Ff,Ff,Int.toNat_natCast,Int.toNat_natCast]
 have hfl:=hF.finl
 constructor
 ·intro e
  exact Xi (hF.fin _ (aB F.fin i 0 (by omega))).1 (hF.fin _ (aB F.fin j 0 (by omega))).1 (Fv hF (fun j hj=>(h.bd j hj).1) _ (Nat.le_refl _)) (Fv hF (fun j hj=>(h.bd j hj).1) _ (Nat.le_refl _)) e
 ·rintro⟨e1,e2⟩
  rw[e1,e2]
def CW (D:TF) (q:Int) (w:List Int) (c:Int):Prop:= ∃t d,RdW D.arcs q w t d/\D.fin.getD t.toNat 0≠ -1/\c=d+D.fin.getD t.toNat 0
theorem RdW.cons_inv {L:List Arc} {s t c x:Int} {u:List Int} (h:RdW L s (x::u) t c): ∃a∈L,a.f=s/\a.i=x/\ ∃d,RdW L a.t u t d/\c=a.w+d:=by
 generalize hw:x::u=w at h
 cases h with
 |nil=>cases hw
 |cons ha h=>
  have e:=List.cons.inj hw
  exact⟨_,ha,rfl,e.1.symm,_,e.2▸h,rfl⟩
theorem CW.nil {D:TF} {q c:Int}:CW D q [] c <-> D.fin.getD q.toNat 0≠ -1/\c=D.fin.getD q.toNat 0:=by
 constructor
 ·rintro⟨t,d,h1,h2,h3⟩
  obtain⟨rfl,rfl⟩:=h1.none rfl
  exact⟨h2,by omega⟩
 ·rintro⟨h1,h2⟩
  exact⟨q,0,.nil _,h1,by omega⟩
theorem CW.cons {D:TF} {q c x:Int} {u:List Int}:CW D q (x::u) c <-> ∃a∈D.arcs,a.f=q/\a.i=x/\CW D a.t u (c-a.w):=by
 constructor
 ·rintro⟨t,d,h1,h2,h3⟩
  obtain⟨a,ha,e1,e2,d',h4,h5⟩:=h1.cons_inv
  exact⟨a,ha,e1,e2,t,d',h4,h2,by omega⟩
 ·rintro⟨a,ha,rfl,rfl,t,d,h1,h2,h3⟩
  exact⟨t,a.w+d,.cons ha h1,h2,by omega⟩
structure aDo (D:TF):Prop where
 srt:Srt D.arcs
 one: ∀a∈D.arcs,∀b∈D.arcs,a.f=b.f->a.i=b.i->a=b
def Psh (D:TF):Prop:= ∀q:Nat,q<D.st.toNat->(∃w,CW D q w 0)/\ ∀w c,CW D q w c->0<=c
section
variable {D:TF} {cls:List Int} (hF:Hs D) (hc:rG D cls) (hd:aDo D) (hp:Psh D)
include hF hc
end
section
variable {U:TF} {W vs:List (List Int)} {par sym:List Int} {i:Nat} {c:Int}
end
end Go.Fw
