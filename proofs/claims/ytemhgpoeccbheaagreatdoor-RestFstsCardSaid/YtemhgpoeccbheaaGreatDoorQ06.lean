/-
  Settling one state after the other, in the plain.
-/
import Derived.Test.YtemhgpoeccbheaaGreatDoorQ05
import Derived.Test.YtemhgpoeccbheaaGreatDoorQ04
set_option linter.unusedSimpArgs false
set_option linter.unusedVariables false
set_option maxRecDepth 100000
set_option maxHeartbeats 16000000
namespace Go.Fw
open Go
def pick (c:List Int) (d:List Bool):Nat->Int
 |0=> -1
 |k+1=>if d.getD k false=false/\c.getD k 0≠ -1/\(pick c d k<0\/c.getD k 0<c.getD (pick c d k).toNat 0)then(k:Int)else pick c d k
def jD (u:Int) (r:List Int×List Int) (p:Arc×Nat):List Int×List Int:=
 if p.1.f=u/\better (r.1.getD u.toNat 0+p.1.w) (r.1.getD p.1.t.toNat 0)=true then(r.1.set p.1.t.toNat (r.1.getD u.toNat 0+p.1.w),r.2.set p.1.t.toNat (p.2:Int))else r
def eG (l:List (Arc×Nat)) (u:Int) (r:List Int×List Int):List Int×List Int:=l.foldl (jD u) r
def yN (l:List (Arc×Nat)):Nat->List Int->List Int->List Bool->List Int×List Int
 |0,c,b,_=>(c,b)
 |k+1,c,b,d=>if pick c d c.length<0 then(c,b)else
  let r:=eG l (pick c d c.length) (c,b)
  yN l k r.1 r.2 (d.set (pick c d c.length).toNat true)
def fW (l:List Arc) (n:Nat) (c:List Int):List Int×List Int:=yN l.zipIdx (n+1) c (List.replicate n (-1)) (List.replicate n false)
theorem lV (c:List Int) (d:List Bool): ∀k:Nat,k<=c.length->(pick c d k<0/\ ∀v,v<k->d.getD v false=false->c.getD v 0= -1)\/
  (0<=pick c d k/\(pick c d k).toNat<k/\d.getD (pick c d k).toNat false=false/\c.getD (pick c d k).toNat 0≠ -1/\ ∀v,v<k->d.getD v false=false->c.getD v 0≠ -1->c.getD (pick c d k).toNat 0<=c.getD v 0)
 |0,_=> .inl ⟨by simp[pick],fun v h=>by omega⟩
 |k+1,hk=>by
  have ih:=lV c d k (by omega)
  simp only[pick]
  by_cases h:d.getD k false=false/\c.getD k 0≠ -1/\(pick c d k<0\/c.getD k 0<c.getD (pick c d k).toNat 0)
  ·rw[if_pos h]
   right
   refine⟨by omega,by simp,by simpa using h.1,by simpa using h.2.1,?_⟩
   intro v hv hd hc
   simp only[Int.toNat_natCast]
   by_cases e:v=k
   ·subst e;omega
   ·rcases ih with⟨_,h1⟩|⟨h0,_,_,_,h1⟩
    ·exact absurd (h1 v (by omega) hd) hc
    ·have:=h1 v (by omega) hd hc
     rcases h.2.2 with h2|h2
     ·omega
     ·omega
  ·rw[if_neg h]
   rcases ih with⟨h0,h1⟩|⟨h0,h1,h2,h3,h4⟩
   ·left
    refine⟨h0,fun v hv hd=>?_⟩
    by_cases e:v=k
    ·subst e
     exact Classical.byContradiction fun hc=>h ⟨hd,hc,.inl h0⟩
    ·exact h1 v (by omega) hd
   ·right
    refine⟨h0,by omega,h2,h3,fun v hv hd hc=>?_⟩
    by_cases e:v=k
    ·subst e
     exact Classical.byContradiction fun hx=>h ⟨hd,hc,.inr (by omega)⟩
    ·exact h4 v (by omega) hd hc
structure DI (l:List Arc) (c0:List Int) (c b:List Int) (d:List Bool):Prop where
 len:c.length=c0.length
 lenb:b.length=c0.length
 lend:d.length=c0.length
 low: ∀v,v<c0.length-> -1<=c.getD v 0
 s1: ∀v,v<c0.length->Le (c.getD v 0) (c0.getD v 0)
 fin: ∀v,d.getD v false=true->c.getD v 0≠ -1
 out: ∀a∈l,d.getD a.f.toNat false=true->Le (c.getD a.t.toNat 0) (c.getD a.f.toNat 0+a.w)
 rn: ∀v,v<c0.length->c.getD v 0≠ -1-> ∃k,k<=d.count true/\RN l c0 k v (c.getD v 0)
 ord: ∀u v,d.getD u false=true->v<c0.length->d.getD v false=false->c.getD v 0≠ -1->c.getD u 0<=c.getD v 0
structure DJ (l:List Arc) (c0 c b:List Int) (d:List Bool) (u:Nat) (m:List (Arc×Nat)) (c' b':List Int):Prop where
 len:c'.length=c0.length
 lenb:b'.length=c0.length
 at_:c'.getD u 0=c.getD u 0
 done: ∀v,d.getD v false=true->c'.getD v 0=c.getD v 0
 low: ∀v,v<c0.length-> -1<=c'.getD v 0
 le: ∀v,Le (c'.getD v 0) (c.getD v 0)
 ge: ∀v,v<c0.length->d.getD v false=false->c'.getD v 0≠ -1->c.getD u 0<=c'.getD v 0
 out: ∀p∈m,p.1.f.toNat=u->Le (c'.getD p.1.t.toNat 0) (c.getD u 0+p.1.w)
 rn: ∀v,v<c0.length->c'.getD v 0≠ -1-> ∃k,k<=d.count true+1/\RN l c0 k v (c'.getD v 0)
theorem DJ.start {l:List Arc} {c0 c b:List Int} {d:List Bool} (h:DI l c0 c b d) {u:Nat} (hu: ∀v,v<c.length->d.getD v false=false->c.getD v 0≠ -1->c.getD u 0<=c.getD v 0):DJ l c0 c b d u [] c b where
 len:=h.len
 lenb:=h.lenb
 at_:=rfl
 done:=fun _ _=>rfl
 low:=h.low
 le:=fun _=>Le.refl _
 ge:=fun v hv hd hc=>hu v (by rw[h.len];exact hv) hd hc
 out:=fun p hp=>by cases hp
 rn:=fun v hv hc=>by obtain⟨k,hk,hr⟩:=h.rn v hv hc;exact⟨k,by omega,hr⟩
theorem fK {a b:Int}:better a b=true <-> a≠ -1/\(b= -1\/a<b):=by simp[better]
theorem DJ.step {l:List Arc} {st:Int} {c0 c b:List Int} {d:List Bool} {u:Nat} {m:List (Arc×Nat)} {c' b':List Int} (h:DI l c0 c b d) (hl: ∀a∈l,bC st a) (hn:(c0.length:Int)=st)
  (hul:u<c0.length) (hud:d.getD u false=false) (huc:c.getD u 0≠ -1) (hj:DJ l c0 c b d u m c' b') {p:Arc×Nat} (hp:p.1∈l):
  DJ l c0 c b d u (m++[p]) (jD (u:Int) (c',b') p).1 (jD (u:Int) (c',b') p).2:=by
 have ha:=hl p.1 hp
 have hu0:=h.low u hul
 have w0:=ha.w0
 have htl:p.1.t.toNat<c0.length:=by have:=ha.t0;have:=ha.t1;omega
 have hat:=hj.at_
 unfold jD
 simp only[Int.toNat_natCast]
 by_cases hb:p.1.f=(u:Int)/\better (c'.getD u 0+p.1.w) (c'.getD p.1.t.toNat 0)=true
 ·rw[if_pos hb]
  obtain⟨hf,hb⟩:=hb
  rw[fK,hat]at hb
  have htu:p.1.t.toNat≠u:=by
   intro e
   rw[e,hat]at hb
   omega
  have htd:d.getD p.1.t.toNat false=false:=by
   cases hx:d.getD p.1.t.toNat false with
   |false=>rfl
   |true=>
    have h1:=h.ord _ u hx hul hud huc
    have h2:=hj.done _ hx
    have h3:=h.fin _ hx
    rw[h2]at hb
    omega
  have hg: ∀v,(c'.set p.1.t.toNat (c'.getD u 0+p.1.w)).getD v 0=if p.1.t.toNat=v/\v<c'.length then c.getD u 0+p.1.w else c'.getD v 0:=fun v=>by rw[kP,hat]
  refine⟨by simp[hj.len],by simp[hj.lenb],?_,?_,?_,?_,?_,?_,?_⟩
  ·rw[hg,if_neg (fun hh=>htu hh.1)];exact hat
  ·intro v hv
   rw[hg,if_neg (fun hh=>by rw[<-hh.1,htd]at hv;cases hv)]
   exact hj.done v hv
  ·intro v hv
   rw[hg]
   split
   ·omega
   ·exact hj.low v hv
  ·intro v
   rw[hg]
   split
   ·rename_i hh
    obtain⟨rfl,_⟩:=hh
    intro hne
    have:=hj.le _ hne
    exact⟨hb.1,by rcases hb.2 with h1|h1<;>omega⟩
   ·exact hj.le v
  ·intro v hv hd hc
   rw[hg]at hc⊢
   split
   ·omega
   ·rename_i hh
    rw[if_neg hh]at hc
    exact hj.ge v hv hd hc
  ·intro q hq hqf
   rw[hg]
   rcases List.mem_append.1 hq with hq|hq
   ·split
    ·rename_i hh
     have h1:=hj.out q hq hqf
     intro hne
     have h2:=h1 hne
     rw[<-hh.1]at h2
     exact⟨hb.1,by rcases hb.2 with h3|h3<;>omega⟩
    ·exact hj.out q hq hqf
   ·rw[List.mem_singleton]at hq
    subst hq
    rw[if_pos ⟨rfl,by rw[hj.len];exact htl⟩]
    exact Le.refl _
  ·intro v hv hc
   rw[hg]at hc⊢
   split
   ·rename_i hh
    obtain⟨rfl,_⟩:=hh
    obtain⟨k,hk,hr⟩:=h.rn u hul huc
    have hfu:p.1.f.toNat=u:=by omega
    exact⟨k+1,by omega,.step (hfu▸hr) hp⟩
   ·rename_i hh
    rw[if_neg hh]at hc
    exact hj.rn v hv hc
 ·rw[if_neg hb]
  refine⟨hj.len,hj.lenb,hj.at_,hj.done,hj.low,hj.le,hj.ge,?_,hj.rn⟩
  intro q hq hqf
  rcases List.mem_append.1 hq with hq|hq
  ·exact hj.out q hq hqf
  ·rw[List.mem_singleton]at hq
   subst hq
   have hf:q.1.f=(u:Int):=by have:=ha.f0;omega
   have h1: ¬better (c'.getD u 0+q.1.w) (c'.getD q.1.t.toNat 0)=true:=fun hx=>hb ⟨hf,hx⟩
   rw[fK,hat]at h1
   intro hne
   have h2:=hj.low _ htl
   show c'.getD q.1.t.toNat 0≠ -1/\c'.getD q.1.t.toNat 0<=c.getD u 0+q.1.w
   omega
theorem DJ.fold {l:List Arc} {st:Int} {c0 c b:List Int} {d:List Bool} {u:Nat} (h:DI l c0 c b d) (hl: ∀a∈l,bC st a) (hn:(c0.length:Int)=st) (hul:u<c0.length) (hud:d.getD u false=false) (huc:c.getD u 0≠ -1):
  ∀(r m:List (Arc×Nat)) (c' b':List Int),(∀p∈r,p.1∈l)->DJ l c0 c b d u m c' b'->DJ l c0 c b d u (m++r) (eG r (u:Int) (c',b')).1 (eG r (u:Int) (c',b')).2
 | [],m,c',b',_,hj=>by simpa[eG]using hj
 |p::r,m,c',b',hr,hj=>by
  have h1:=hj.step h hl hn hul hud huc (hr p (by simp))
  have h2:=DJ.fold h hl hn hul hud huc r _ _ _ (fun q hq=>hr q (by simp[hq])) h1
  have e:m++p::r=m++[p]++r:=by simp
  rw[e]
  exact h2
theorem kA: ∀(d:List Bool) (u:Nat),u<d.length->d.getD u false=false->(d.set u true).count true=d.count true+1/\d.count true<d.length
 | [],u,h,_=>by simp at h
 |x::d,0,_,h=>by
  simp only[List.getD_cons_zero]at h
  subst h
  simp only[List.set_cons_zero,List.count_cons,beq_self_eq_true,if_true,List.length_cons]
  have:=List.count_le_length (a:=true) (l:=d)
  simp;omega
 |x::d,u+1,hl,h=>by
  simp only[List.getD_cons_succ]at h
  have ih:=kA d u (by simpa using hl) h
  simp only[List.set_cons_succ,List.count_cons,List.length_cons]
  refine⟨by omega,?_⟩
  cases x<;>simp<;>omega
theorem DI.next {l:List Arc} {st:Int} {c0 c b:List Int} {d:List Bool} {u:Nat} (h:DI l c0 c b d) (hl: ∀a∈l,bC st a) (hn:(c0.length:Int)=st) (hul:u<c0.length) (hud:d.getD u false=false) (huc:c.getD u 0≠ -1)
  (hu: ∀v,v<c.length->d.getD v false=false->c.getD v 0≠ -1->c.getD u 0<=c.getD v 0) {r:List (Arc×Nat)} (hr: ∀a,a∈l <-> ∃i,(a,i)∈r):
  DI l c0 (eG r (u:Int) (c,b)).1 (eG r (u:Int) (c,b)).2 (d.set u true):=by
 have hj:=DJ.fold h hl hn hul hud huc r [] c b (fun p hp=>(hr p.1).2 ⟨p.2,hp⟩) (DJ.start h hu)
 rw[List.nil_append]at hj
 have hdl:=h.lend
 have hg: ∀v,(d.set u true).getD v false=if u=v/\v<d.length then true else d.getD v false:=fun v=>kP _ _ _ _ _
 have hcnt:=(kA d u (by omega) hud).1
 have hset: ∀v,(d.set u true).getD v false=true->v=u\/d.getD v false=true:=by
  intro v hv
  rw[hg]at hv
  split at hv
  ·rename_i hh;exact .inl hh.1.symm
  ·exact .inr hv
 have hset': ∀v,(d.set u true).getD v false=false->v≠u/\d.getD v false=false:=by
  intro v hv
  rw[hg]at hv
  split at hv
  ·cases hv
  ·rename_i hh;exact⟨fun e=>hh ⟨e.symm,by omega⟩,hv⟩
 refine⟨hj.len,hj.lenb,by simp[hdl],hj.low,fun v hv=>(hj.le v).trans (h.s1 v hv),?_,?_,?_,?_⟩
 ·intro v hv
  rcases hset v hv with rfl|hv
  ·rw[hj.at_];exact huc
  ·rw[hj.done v hv];exact h.fin v hv
 ·intro a ha hf
  rcases hset _ hf with hf|hf
  ·obtain⟨i,hi⟩:=(hr a).1 ha
   rw[hf,hj.at_]
   exact hj.out (a,i) hi hf
  ·rw[hj.done _ hf]
   exact(hj.le _).trans (h.out a ha hf)
 ·intro v hv hc
  obtain⟨k,hk,hr'⟩:=hj.rn v hv hc
  exact⟨k,by rw[hcnt];exact hk,hr'⟩
 ·intro x v hx hv hd hc
  obtain⟨_,hd'⟩:=hset' v hd
  have h1:=hj.ge v hv hd' hc
  rcases hset x hx with rfl|hx
  ·rw[hj.at_];exact h1
  ·rw[hj.done x hx]
   have:=h.ord x u hx hul hud huc
   omega
theorem DI.end_ {l:List Arc} {st:Int} {c0 c b:List Int} {d:List Bool} (h:DI l c0 c b d) (hl: ∀a∈l,bC st a) (hn:(c0.length:Int)=st) (hp: ∀v,v<c.length->d.getD v false=false->c.getD v 0= -1):Sol l c0 c:=by
 refine⟨h.len,h.s1,?_,?_⟩
 ·intro a ha hf
  have hfl:a.f.toNat<c.length:=by have:=(hl a ha).f0;have:=(hl a ha).f1;have:=h.len;omega
  refine h.out a ha ?_
  cases hx:d.getD a.f.toNat false with
  |true=>rfl
  |false=>exact absurd (hp _ hfl hx) hf
 ·intro v hv hc
  obtain⟨k,hk,hr⟩:=h.rn v hv hc
  have:=List.count_le_length (a:=true) (l:=d)
  exact⟨k,by have:=h.lend;omega,hr⟩
theorem Ig {l:List Arc} {st:Int} {c0:List Int} (hl: ∀a∈l,bC st a) (hn:(c0.length:Int)=st) {r:List (Arc×Nat)} (hr: ∀a,a∈l <-> ∃i,(a,i)∈r):
  ∀(k:Nat) (c b:List Int) (d:List Bool),DI l c0 c b d->c0.length<k+d.count true->Sol l c0 (yN r k c b d).1/\(yN r k c b d).2.length=c0.length
 |0,c,b,d,h,hk=>by
  have:=List.count_le_length (a:=true) (l:=d)
  have:=h.lend
  omega
 |k+1,c,b,d,h,hk=>by
  simp only[yN]
  rcases lV c d c.length (Nat.le_refl _)with⟨h1,h2⟩|⟨h1,h2,h3,h4,h5⟩
  ·rw[if_pos h1]
   exact⟨h.end_ hl hn h2,h.lenb⟩
  ·rw[if_neg (by omega)]
   have hul:(pick c d c.length).toNat<c0.length:=by rw[<-h.len];exact h2
   have hnext:=h.next hl hn hul h3 h4 h5 hr
   have e:((pick c d c.length).toNat:Int)=pick c d c.length:=by omega
   rw[e]at hnext
   have hdl:=h.lend
   exact Ig hl hn hr k _ _ _ hnext (by rw[(kA d _ (by omega) h3).1];omega)
theorem lG {l:List Arc} {st:Int} {c0:List Int} {B:Int} (hl: ∀a∈l,bC st a) (hb:Bd st B c0):Sol l c0 (fW l c0.length c0).1/\(fW l c0.length c0).2.length=c0.length:=by
 refine Ig hl hb.len (fun a=>?_) (c0.length+1) _ _ _ ?_ (by omega)
 ·constructor
  ·intro ha
   obtain⟨i,hi,he⟩:=List.getElem_of_mem ha
   exact⟨i,by rw[List.mem_zipIdx_iff_getElem?];simp[hi,he]⟩
  ·rintro⟨i,hi⟩
   rw[List.mem_zipIdx_iff_getElem?]at hi
   exact List.mem_of_getElem? hi
 ·have hf: ∀v,(List.replicate c0.length false).getD v false=false:=by
   intro v
   simp only[List.getD,List.getElem?_replicate]
   split<;>rfl
  refine⟨rfl,by simp,by simp,fun v hv=>(hb.bd _ (aB c0 v 0 hv)).1,fun v hv=>Le.refl _,?_,?_,?_,?_⟩
  ·intro v hv;rw[hf]at hv;cases hv
  ·intro a _ hv;rw[hf]at hv;cases hv
  ·intro v hv hc;exact⟨0,Nat.zero_le _,.base hv hc⟩
  ·intro u v hv;rw[hf]at hv;cases hv
theorem yM {l l':List Arc} {st:Int} {c0:List Int} {B:Int} (hl: ∀a∈l,bC st a) (hb:Bd st B c0) (hB:0<=B) (hll: ∀a,a∈l <-> a∈l'):(fW l c0.length c0).1=fP (bO l') c0.length c0:=
 (lG hl hb).1.eq hb hB hl hll
theorem uQ (l:List Arc) (e:Arc->Arc) (k:Nat) (h:k<l.length):((l.map e).zipIdx).take (k+1)=((l.map e).zipIdx).take k++[(e (l.getD k EK.arc.dflt),k)]:=by
 rw[List.take_succ_eq_append_getElem (by simpa using h)]
 simp[List.getD,h]
theorem rL (l:List (Arc×Nat)) (p:Arc×Nat) (u:Int) (r:List Int×List Int):eG (l++[p]) u r=jD u (eG l u r) p:=by
 simp[eG]
structure SB (st B:Int) (u:Int) (cu:Int) (r:List Int×List Int):Prop where
 bd:Bd st (B+100000000000) r.1
 at_:r.1.getD u.toNat 0=cu
 lenb:(r.2.length:Int)=st
theorem SB.step {st B u cu:Int} {r:List Int×List Int} (h:SB st B u cu r) (hu:0<=u) (hu1:u<st) (hc:cu≠ -1) (hB:cu<=B) {p:Arc×Nat} (ha:bC st p.1):SB st B u cu (jD u r p):=by
 unfold jD
 by_cases hb:p.1.f=u/\better (r.1.getD u.toNat 0+p.1.w) (r.1.getD p.1.t.toNat 0)=true
 ·rw[if_pos hb]
  obtain⟨_,hb⟩:=hb
  rw[fK,h.at_]at hb
  have w0:=ha.w0
  have w1:=ha.w1
  have hlen:=h.bd.len
  have hcu:=h.bd.at hu hu1
  rw[h.at_]at hcu
  refine⟨⟨by simp[hlen],fun v hv=>?_⟩,?_,by simp[h.lenb]⟩
  ·rcases List.mem_or_eq_of_mem_set hv with hv|rfl
   ·exact h.bd.bd v hv
   ·rw[h.at_];omega
  ·rw[kP]
   split
   ·rename_i hh
    rw[hh.1,h.at_]at hb
    omega
   ·exact h.at_
 ·rw[if_neg hb]
  exact h
theorem SB.fold {st B u cu:Int} (hu:0<=u) (hu1:u<st) (hc:cu≠ -1) (hB:cu<=B): ∀(l:List (Arc×Nat)) {r:List Int×List Int},SB st B u cu r->(∀p∈l,bC st p.1)->SB st B u cu (eG l u r)
 | [],r,h,_=>h
 |p::l,r,h,hl=>SB.fold hu hu1 hc hB l (h.step hu hu1 hc hB (hl p (by simp))) (fun q hq=>hl q (by simp[hq]))
theorem Wd {st:Int} {l:List Arc} (hl: ∀a∈l,bC st a): ∀p∈l.zipIdx,bC st p.1:=by
 rintro⟨a,i⟩ hp
 rw[List.mem_zipIdx_iff_getElem?]at hp
 exact hl a (List.mem_of_getElem? hp)
structure SI (st:Int) (l:List (Arc×Nat)) (R:List Int×List Int) (k:Nat) (c b:List Int) (d:List Bool):Prop where
 kk:k<=st.toNat+1
 bd:Bd st (100000000000*(203-k)) c
 lenb:(b.length:Int)=st
 lend:(d.length:Int)=st
 eq:yN l k c b d=R
 cnt:st.toNat<k+d.count true
theorem SI.k1 {st:Int} {l:List (Arc×Nat)} {R:List Int×List Int} {k:Nat} {c b:List Int} {d:List Bool} (h:SI st l R k c b d): ∃k',k=k'+1:=by
 have:=List.count_le_length (a:=true) (l:=d)
 have:=h.cnt
 have:=h.lend
 exact⟨k-1,by omega⟩
theorem SI.over {st:Int} {l:List (Arc×Nat)} {R:List Int×List Int} {k:Nat} {c b:List Int} {d:List Bool} (h:SI st l R k c b d) (hp:pick c d c.length<0):R=(c,b):=by
 obtain⟨k',rfl⟩:=h.k1
 have:=h.eq
 simp only[yN,if_pos hp]at this
 exact this.symm
theorem SI.next {st:Int} (hst:1<=st/\st<=200) {l:List (Arc×Nat)} {R:List Int×List Int} {k:Nat} {c b:List Int} {d:List Bool} (h:SI st l R k c b d) (hl: ∀p∈l,bC st p.1) (hp: ¬pick c d c.length<0):
  SI st l R (k-1) (eG l (pick c d c.length) (c,b)).1 (eG l (pick c d c.length) (c,b)).2 (d.set (pick c d c.length).toNat true)/\k-1<k/\
   0<=pick c d c.length/\pick c d c.length<st/\c.getD (pick c d c.length).toNat 0≠ -1/\SB st (100000000000*(203-k)) (pick c d c.length) (c.getD (pick c d c.length).toNat 0) (c,b)/\c.getD (pick c d c.length).toNat 0<=100000000000*(203-k):=by
 obtain⟨k',rfl⟩:=h.k1
 have hlen:=h.bd.len
 have hlend:=h.lend
 rcases lV c d c.length (Nat.le_refl _)with⟨h1,_⟩|⟨h1,h2,h3,h4,h5⟩
 ·exact absurd h1 hp
 ·have hlt:pick c d c.length<st:=by omega
  have hb:=h.bd.at h1 hlt
  have kk:=h.kk
  have sb:SB st (100000000000*(203-(k'+1:Nat))) (pick c d c.length) (c.getD (pick c d c.length).toNat 0) (c,b):=
   ⟨⟨hlen,fun v hv=>by have:=h.bd.bd v hv;omega⟩,rfl,h.lenb⟩
  have sb2:=sb.fold h1 hlt h4 hb.2 l hl
  have heq:=h.eq
  simp only[yN,if_neg hp]at heq
  refine⟨⟨by omega,⟨sb2.bd.len,fun v hv=>?_⟩,sb2.lenb,by simp[hlend],?_,?_⟩,by omega,h1,hlt,h4,sb,hb.2⟩
  ·have:=sb2.bd.bd v hv
   simp only[Nat.add_sub_cancel]
   omega
  ·simpa using heq
  ·have:=h.cnt
   rw[(kA d _ (by omega) h3).1]
   omega
theorem SI.start {st:Int} (hst:1<=st/\st<=200) {l:List Arc} {c:List Int} (hc:Bd st 100000000000 c):SI st l.zipIdx (fW l c.length c) (c.length+1) c (List.replicate c.length (-1)) (List.replicate c.length false):=by
 have:=hc.len
 refine⟨by omega,⟨hc.len,fun v hv=>?_⟩,by simp[hc.len],by simp[hc.len],rfl,by omega⟩
 have:=hc.bd v hv
 omega
def tH (D:List Int) (a:Arc):Option Arc:=
 if D.getD a.f.toNat 0= -1\/D.getD a.t.toNat 0= -1 then none else some ⟨a.f,a.i,a.o,a.t,a.w+(D.getD a.t.toNat 0-D.getD a.f.toNat 0)⟩
def dD (D:List Int) (l:List Arc):List Arc:=l.filterMap (tH D)
def yY (D fin:List Int) (k n:Nat):Int:=if n<k/\fin.getD n 0≠ -1 then fin.getD n 0-D.getD n 0 else fin.getD n 0
def eC (D fin:List Int) (k:Nat):List Int:=(List.range fin.length).map (yY D fin k)
def Qn (l:List Arc):Bool:=l.any fun a=>decide (a.w>1000000000)
theorem jU (D fin:List Int) (k:Nat):(eC D fin k).length=fin.length:=by simp[eC]
theorem Mu (D fin:List Int):eC D fin 0=fin:=by
 apply List.ext_getElem (by simp[eC])
 intro i h1 h2
 simp[eC,yY,List.getD,h2]
theorem Mw (D fin:List Int) (k n:Nat) (h:n<fin.length):(eC D fin k).getD n 0=yY D fin k n:=by simp[eC,List.getD,h]
theorem Tr (D fin:List Int) (k:Nat) (h:k<fin.length) (hk:fin.getD k 0≠ -1):eC D fin (k+1)=(eC D fin k).set k (fin.getD k 0-D.getD k 0):=by
 apply List.ext_getElem (by simp[eC])
 intro i h1 h2
 simp only[eC,List.getElem_map,List.getElem_range,List.getElem_set,yY]
 by_cases e:k=i
 ·subst e;rw[if_pos rfl,if_pos ⟨by omega,hk⟩]
 ·rw[if_neg e]
  by_cases h3:i<k
  ·by_cases h4:fin.getD i 0= -1
   ·rw[if_neg (fun hh=>hh.2 h4),if_neg (fun hh=>hh.2 h4)]
   ·rw[if_pos ⟨by omega,h4⟩,if_pos ⟨h3,h4⟩]
  ·rw[if_neg (by omega),if_neg (by omega)]
theorem Ye (D fin:List Int) (k:Nat) (hk:fin.getD k 0= -1):eC D fin (k+1)=eC D fin k:=by
 unfold eC
 congr 1
 funext n
 unfold yY
 by_cases e:n=k
 ·subst e;rw[if_neg (fun hh=>hh.2 hk),if_neg (by omega)]
 ·by_cases h3:n<k
  ·by_cases h4:fin.getD n 0= -1
   ·rw[if_neg (fun hh=>hh.2 h4),if_neg (fun hh=>hh.2 h4)]
   ·rw[if_pos ⟨by omega,h4⟩,if_pos ⟨h3,h4⟩]
  ·rw[if_neg (by omega),if_neg (by omega)]
theorem Mt (D:List Int) (l:List Arc) (k:Nat) (h:k<l.length):dD D (l.take (k+1))=dD D (l.take k)++(match tH D (l.getD k EK.arc.dflt)with|none=> []|some b=> [b]):=by
 rw[aY l k EK.arc.dflt h]
 simp only[dD,List.filterMap_append,List.filterMap_cons,List.filterMap_nil]
 congr 1
 cases tH D (l.getD k EK.arc.dflt)<;>rfl
theorem vF (D:List Int) (l:List Arc):(dD D l).length<=l.length:=List.length_filterMap_le _ _
theorem Po {F:TF} (h:mL F):Bd F.st 100000000000000000 (kZ F):=by
 have h1:=Bd.iterT h F.st.toNat
 have:=h.st
 exact⟨h1.len,fun v hv=>by have:=h1.bd v hv;omega⟩
theorem Vb {F:TF} (h:mL F):Bd F.st 100000000000000000 (Nw F):=by
 have h1:=Bd.iter h F.st.toNat
 have:=h.st
 exact⟨h1.len,fun v hv=>by have:=h1.bd v hv;omega⟩
def aCb (l:List Arc) (c0 c b:List Int) (P:Arc->Prop) (v:Nat):Prop:=
 (b.getD v (-1)= -1/\c.getD v 0=c0.getD v 0)\/ ∃(i:Nat) (a:Arc),b.getD v (-1)=(i:Int)/\l[i]?=some a/\a.t.toNat=v/\c.getD v 0=c.getD a.f.toNat 0+a.w/\P a
structure DB (l:List Arc) (c0 c b:List Int) (d:List Bool) (rk:Nat->Nat):Prop where
 r1: ∀v,d.getD v false=true->rk v<d.count true
 b1: ∀v,v<c0.length->aCb l c0 c b (fun a=>d.getD a.f.toNat false=true/\(d.getD v false=true->rk a.f.toNat<rk v)) v
def DC (l:List Arc) (c0 c' b':List Int) (d:List Bool) (rk:Nat->Nat) (u:Nat):Prop:=
 ∀v,v<c0.length->aCb l c0 c' b' (fun a=>(d.getD a.f.toNat false=true\/a.f.toNat=u)/\(d.getD v false=true->d.getD a.f.toNat false=true/\rk a.f.toNat<rk v)/\(v=u->d.getD a.f.toNat false=true)) v
theorem DC.step {l:List Arc} {st:Int} {c0 c b:List Int} {d:List Bool} {rk:Nat->Nat} {u:Nat} {m:List (Arc×Nat)} {c' b':List Int} (h:DI l c0 c b d) (hl: ∀a∈l,bC st a) (hn:(c0.length:Int)=st)
  (hul:u<c0.length) (hud:d.getD u false=false) (huc:c.getD u 0≠ -1) (hj:DJ l c0 c b d u m c' b') {p:Arc×Nat} (hp:l[p.2]?=some p.1) (hc:DC l c0 c' b' d rk u):
  DC l c0 (jD (u:Int) (c',b') p).1 (jD (u:Int) (c',b') p).2 d rk u:=by
 have ha:=hl p.1 (List.mem_of_getElem? hp)
 have hu0:=h.low u hul
 have w0:=ha.w0
 have htl:p.1.t.toNat<c0.length:=by have:=ha.t0;have:=ha.t1;omega
 have hat:=hj.at_
 unfold jD
 simp only[Int.toNat_natCast]
 by_cases hb:p.1.f=(u:Int)/\better (c'.getD u 0+p.1.w) (c'.getD p.1.t.toNat 0)=true
 ·rw[if_pos hb]
  obtain⟨hf,hb⟩:=hb
  rw[fK,hat]at hb
  have htu:p.1.t.toNat≠u:=by
   intro e
   rw[e,hat]at hb
   omega
  have htd:d.getD p.1.t.toNat false=false:=by
   cases hx:d.getD p.1.t.toNat false with
   |false=>rfl
   |true=>
    have h1:=h.ord _ u hx hul hud huc
    have h2:=hj.done _ hx
    have h3:=h.fin _ hx
    rw[h2]at hb
    omega
  have hg: ∀v,(c'.set p.1.t.toNat (c'.getD u 0+p.1.w)).getD v 0=if p.1.t.toNat=v/\v<c'.length then c.getD u 0+p.1.w else c'.getD v 0:=fun v=>by rw[kP,hat]
  have hgb: ∀v,(b'.set p.1.t.toNat (p.2:Int)).getD v (-1)=if p.1.t.toNat=v/\v<b'.length then(p.2:Int)else b'.getD v (-1):=fun v=>kP _ _ _ _ _
  intro v hv
  unfold aCb
  by_cases e:p.1.t.toNat=v
  ·subst e
   right
   have hfu:p.1.f.toNat=u:=by omega
   refine⟨p.2,p.1,?_,hp,rfl,?_,.inr hfu,?_,?_⟩
   ·simp only[hgb];rw[if_pos ⟨trivial,by rw[hj.lenb];exact hv⟩]
   ·simp only[hg]
    rw[if_pos ⟨trivial,by rw[hj.len];exact hv⟩,hfu,if_neg (fun hh=>htu hh.1),hat]
   ·intro hx;rw[htd]at hx;cases hx
   ·intro hx;exact absurd hx htu
  ·rcases hc v hv with⟨h1,h2⟩|⟨i,a,h1,h2,h3,h4,h5,h6,h7⟩
   ·left
    simp only[hg,hgb]
    rw[if_neg (fun hh=>e hh.1),if_neg (fun hh=>e hh.1)]
    exact⟨h1,h2⟩
   ·right
    refine⟨i,a,?_,h2,h3,?_,h5,h6,h7⟩
    ·simp only[hgb];rw[if_neg (fun hh=>e hh.1)];exact h1
    ·simp only[hg]
     rw[if_neg (fun hh=>e hh.1),h4]
     have: ¬(p.1.t.toNat=a.f.toNat):=by
      intro hx
      rcases h5 with h5|h5
      ·rw[<-hx,htd]at h5;cases h5
      ·exact htu (hx.trans h5)
     rw[if_neg (fun hh=>this hh.1)]
 ·rw[if_neg hb]
  exact hc
theorem DC.fold {l:List Arc} {st:Int} {c0 c b:List Int} {d:List Bool} {rk:Nat->Nat} {u:Nat} (h:DI l c0 c b d) (hl: ∀a∈l,bC st a) (hn:(c0.length:Int)=st) (hul:u<c0.length) (hud:d.getD u false=false) (huc:c.getD u 0≠ -1):
  ∀(r m:List (Arc×Nat)) (c' b':List Int),(∀p∈r,l[p.2]?=some p.1)->DJ l c0 c b d u m c' b'->DC l c0 c' b' d rk u->DC l c0 (eG r (u:Int) (c',b')).1 (eG r (u:Int) (c',b')).2 d rk u
 | [],m,c',b',_,_,hc=>hc
 |p::r,m,c',b',hr,hj,hc=>by
  have hp:=hr p (by simp)
  have h1:=hj.step h hl hn hul hud huc (p:=p) (List.mem_of_getElem? hp)
  exact DC.fold h hl hn hul hud huc r _ _ _ (fun q hq=>hr q (by simp[hq])) h1 (hc.step h hl hn hul hud huc hj hp)
theorem DB.next {l:List Arc} {st:Int} {c0 c b:List Int} {d:List Bool} {rk:Nat->Nat} {u:Nat} (h:DI l c0 c b d) (hb:DB l c0 c b d rk) (hl: ∀a∈l,bC st a) (hn:(c0.length:Int)=st) (hul:u<c0.length) (hud:d.getD u false=false) (huc:c.getD u 0≠ -1)
  (hu: ∀v,v<c.length->d.getD v false=false->c.getD v 0≠ -1->c.getD u 0<=c.getD v 0) {r:List (Arc×Nat)} (hr2: ∀p∈r,l[p.2]?=some p.1):
  DB l c0 (eG r (u:Int) (c,b)).1 (eG r (u:Int) (c,b)).2 (d.set u true) (fun v=>if v=u then d.count true else rk v):=by
 have hj0:=DJ.start h hu
 have hj:=DJ.fold h hl hn hul hud huc r [] c b (fun p hp=>List.mem_of_getElem? (hr2 p hp)) hj0
 have hc:=DC.fold (rk:=rk) h hl hn hul hud huc r [] c b hr2 hj0 (by
  intro v hv
  rcases hb.b1 v hv with h1|⟨i,a,h1,h2,h3,h4,h5,h6⟩
  ·exact .inl h1
  ·exact .inr ⟨i,a,h1,h2,h3,h4,.inl h5,fun hx=>⟨h5,h6 hx⟩,fun _=>h5⟩)
 have hdl:=h.lend
 have hg: ∀v,(d.set u true).getD v false=if u=v/\v<d.length then true else d.getD v false:=fun v=>kP _ _ _ _ _
 have hcnt:=(kA d u (by omega) hud).1
 have hset: ∀v,(d.set u true).getD v false=true->v=u\/d.getD v false=true:=by
  intro v hv
  rw[hg]at hv
  split at hv
  ·rename_i hh;exact .inl hh.1.symm
  ·exact .inr hv
 have hset2: ∀v,(d.getD v false=true\/v=u)->(d.set u true).getD v false=true:=by
  intro v hv
  rw[hg]
  split
  ·rfl
  ·rename_i hh
   rcases hv with hv|rfl
   ·exact hv
   ·exact absurd ⟨rfl,by omega⟩ hh
 constructor
 ·intro v hv
  rw[hcnt]
  rcases hset v hv with rfl|hv
  ·simp
  ·by_cases e:v=u
   ·simp[e]
   ·simp only[if_neg e];have:=hb.r1 v hv;omega
 ·intro v hv
  rcases hc v hv with h1|⟨i,a,h1,h2,h3,h4,h5,h6,h7⟩
  ·exact .inl h1
  ·refine .inr ⟨i,a,h1,h2,h3,h4,hset2 _ h5,fun hx=>?_⟩
   rcases hset v hx with e|hx
   ·have h8:=h7 e
    have hne:a.f.toNat≠u:=fun e2=>by rw[e2,hud]at h8;cases h8
    simp only[if_neg hne,if_pos e]
    exact hb.r1 _ h8
   ·obtain⟨h8,h9⟩:=h6 hx
    have hne:a.f.toNat≠u:=fun e2=>by rw[e2,hud]at h8;cases h8
    have hne2:v≠u:=fun e2=>by rw[e2,hud]at hx;cases hx
    simp only[if_neg hne,if_neg hne2]
    exact h9
def aCc (l:List Arc) (c0 c b:List Int):Prop:=
 ∃rk:Nat->Nat,(∀v,v<c0.length->c.getD v 0≠ -1->rk v<c0.length)/\ ∀v,v<c0.length->aCb l c0 c b (fun a=>c.getD v 0≠ -1/\c.getD a.f.toNat 0≠ -1/\rk a.f.toNat<rk v) v
theorem DB.end_ {l:List Arc} {st:Int} {c0 c b:List Int} {d:List Bool} {rk:Nat->Nat} (h:DI l c0 c b d) (hb:DB l c0 c b d rk) (hl: ∀a∈l,bC st a) (hn:(c0.length:Int)=st) (hp: ∀v,v<c.length->d.getD v false=false->c.getD v 0= -1):aCc l c0 c b:=by
 have hdone: ∀v,v<c0.length->c.getD v 0≠ -1->d.getD v false=true:=by
  intro v hv hc
  cases hx:d.getD v false with
  |true=>rfl
  |false=>exact absurd (hp v (by rw[h.len];exact hv) hx) hc
 refine⟨rk,fun v hv hc=>?_,fun v hv=>?_⟩
 ·have h1:=hb.r1 v (hdone v hv hc)
  have:=List.count_le_length (a:=true) (l:=d)
  have:=h.lend
  omega
 rcases hb.b1 v hv with h1|⟨i,a,h1,h2,h3,h4,h5,h6⟩
 ·exact .inl h1
 ·have ha:=hl a (List.mem_of_getElem? h2)
  have hf:=h.fin _ h5
  have hfl:a.f.toNat<c0.length:=by have:=ha.f0;have:=ha.f1;omega
  have hlow:=h.low _ hfl
  have w0:=ha.w0
  have hv1:c.getD v 0≠ -1:=by omega
  exact .inr ⟨i,a,h1,h2,h3,h4,hv1,hf,h6 (hdone v hv hv1)⟩
theorem Qc {l:List Arc} {st:Int} {c0:List Int} (hl: ∀a∈l,bC st a) (hn:(c0.length:Int)=st) {r:List (Arc×Nat)} (hr: ∀a,a∈l <-> ∃i,(a,i)∈r) (hr2: ∀p∈r,l[p.2]?=some p.1):
  ∀(k:Nat) (c b:List Int) (d:List Bool) (rk:Nat->Nat),DI l c0 c b d->DB l c0 c b d rk->c0.length<k+d.count true->aCc l c0 (yN r k c b d).1 (yN r k c b d).2
 |0,c,b,d,rk,h,hb,hk=>by
  have:=List.count_le_length (a:=true) (l:=d)
  have:=h.lend
  omega
 |k+1,c,b,d,rk,h,hb,hk=>by
  simp only[yN]
  rcases lV c d c.length (Nat.le_refl _)with⟨h1,h2⟩|⟨h1,h2,h3,h4,h5⟩
  ·rw[if_pos h1]
   exact hb.end_ h hl hn h2
  ·rw[if_neg (by omega)]
   have hul:(pick c d c.length).toNat<c0.length:=by rw[<-h.len];exact h2
   have hnext:=h.next hl hn hul h3 h4 h5 hr
   have hbn:=hb.next h hl hn hul h3 h4 h5 hr2
   have e:((pick c d c.length).toNat:Int)=pick c d c.length:=by omega
   rw[e]at hnext hbn
   have hdl:=h.lend
   exact Qc hl hn hr hr2 k _ _ _ _ hnext hbn (by rw[(kA d _ (by omega) h3).1];omega)
theorem Mi {l:List Arc} {st:Int} {c0:List Int} {B:Int} (hl: ∀a∈l,bC st a) (hb:Bd st B c0):aCc l c0 (fW l c0.length c0).1 (fW l c0.length c0).2:=by
 have hf: ∀v,(List.replicate c0.length false).getD v false=false:=by
  intro v
  simp only[List.getD,List.getElem?_replicate]
  split<;>rfl
 refine Qc hl hb.len (fun a=>?_) (fun p hp=>?_) (c0.length+1) _ _ _ (fun _=>0) ?_ ?_ (by omega)
 ·constructor
  ·intro ha
   obtain⟨i,hi,he⟩:=List.getElem_of_mem ha
   exact⟨i,by rw[List.mem_zipIdx_iff_getElem?];simp[hi,he]⟩
  ·rintro⟨i,hi⟩
   rw[List.mem_zipIdx_iff_getElem?]at hi
   exact List.mem_of_getElem? hi
 ·obtain⟨a,i⟩:=p
  rw[List.mem_zipIdx_iff_getElem?]at hp
  exact hp
 ·refine⟨rfl,by simp,by simp,fun v hv=>(hb.bd _ (aB c0 v 0 hv)).1,fun v hv=>Le.refl _,?_,?_,?_,?_⟩
  ·intro v hv;rw[hf]at hv;cases hv
  ·intro a _ hv;rw[hf]at hv;cases hv
  ·intro v hv hc;exact⟨0,Nat.zero_le _,.base hv hc⟩
  ·intro u v hv;rw[hf]at hv;cases hv
 ·refine⟨(fun v hv=>by rw[hf]at hv;cases hv),fun v hv=> .inl ⟨?_,rfl⟩⟩
  simp[List.getD,hv]
def sQ (arcs:List Arc) (b:List Int):Nat->Int->List Int
 |0,_=> []
 |k+1,v=>if 0<=v/\0<=b.getD v.toNat (-1)then b.getD v.toNat (-1)::sQ arcs b k ((arcs.getD (b.getD v.toNat (-1)).toNat EK.arc.dflt).f)else []
theorem Pk {arcs:List Arc} {b:List Int} {v:Int} (h: ¬(0<=v/\0<=b.getD v.toNat (-1))): ∀k,sQ arcs b k v=[]
 |0=>rfl
 |k+1=>by simp only[sQ,if_neg h]
theorem Wi {arcs:List Arc} {b:List Int} {v:Int} (h:0<=v/\0<=b.getD v.toNat (-1)) (k:Nat):sQ arcs b (k+1) v=b.getD v.toNat (-1)::sQ arcs b k ((arcs.getD (b.getD v.toNat (-1)).toNat EK.arc.dflt).f):=by
 simp only[sQ,if_pos h]
theorem Hu (arcs:List Arc) (b:List Int): ∀(k:Nat) (v:Int),(sQ arcs b k v).length<=k
 |0,_=>by simp[sQ]
 |k+1,v=>by
  simp only[sQ]
  split
  ·simp only[List.length_cons];have:=Hu arcs b k;have:=this ((arcs.getD (b.getD v.toNat (-1)).toNat EK.arc.dflt).f);omega
  ·simp
def dT (c fin:List Int):Nat->Int×Int
 |0=>(-1,-1)
 |k+1=>if fin.getD k 0≠ -1/\c.getD k 0≠ -1/\better (c.getD k 0+fin.getD k 0) (dT c fin k).2=true then((k:Int),c.getD k 0+fin.getD k 0)else dT c fin k
theorem Bf (c fin:List Int) (hc: ∀v∈c,-1<=v) (hf: ∀v∈fin,-1<=v) (hl:c.length=fin.length): ∀k,k<=c.length->
  ((dT c fin k).1= -1/\(dT c fin k).2= -1/\ ∀v,v<k->c.getD v 0= -1\/fin.getD v 0= -1)\/
  (0<=(dT c fin k).1/\(dT c fin k).1<k/\c.getD (dT c fin k).1.toNat 0≠ -1/\fin.getD (dT c fin k).1.toNat 0≠ -1/\(dT c fin k).2=c.getD (dT c fin k).1.toNat 0+fin.getD (dT c fin k).1.toNat 0/\
   ∀v,v<k->c.getD v 0≠ -1->fin.getD v 0≠ -1->(dT c fin k).2<=c.getD v 0+fin.getD v 0)
 |0,_=> .inl ⟨rfl,rfl,fun v h=>by omega⟩
 |k+1,hk=>by
  have ih:=Bf c fin hc hf hl k (by omega)
  have h1:=hc _ (aB c k 0 (by omega))
  have h2:=hf _ (aB fin k 0 (by omega))
  simp only[dT]
  by_cases h:fin.getD k 0≠ -1/\c.getD k 0≠ -1/\better (c.getD k 0+fin.getD k 0) (dT c fin k).2=true
  ·rw[if_pos h]
   right
   have h3:=h.2.2
   rw[fK]at h3
   refine⟨by simp only;omega,by simp only;omega,h.2.1,h.1,rfl,?_⟩
   intro v hv hcv hfv
   simp only
   by_cases e:v=k
   ·subst e;omega
   ·rcases ih with⟨_,_,h4⟩|⟨g1,g2,h7,h8,h9,h4⟩
    ·rcases h4 v (by omega)with h5|h5
     ·exact absurd h5 hcv
     ·exact absurd h5 hfv
    ·have:=h4 v (by omega) hcv hfv
     rcases h3.2 with h6|h6
     ·have:=hc _ (aB c (dT c fin k).1.toNat 0 (by omega))
      have:=hf _ (aB fin (dT c fin k).1.toNat 0 (by omega))
      omega
     ·omega
  ·rw[if_neg h]
   rcases ih with⟨h3,h4,h5⟩|⟨h3,h4,h5,h6,h7,h8⟩
   ·left
    refine⟨h3,h4,fun v hv=>?_⟩
    by_cases e:v=k
    ·subst e
     by_cases hcv:c.getD v 0= -1
     ·exact .inl hcv
     ·by_cases hfv:fin.getD v 0= -1
      ·exact .inr hfv
      ·exact absurd ⟨hfv,hcv,by rw[fK,h4];omega⟩ h
    ·exact h5 v (by omega)
   ·right
    refine⟨h3,by omega,h5,h6,h7,fun v hv hcv hfv=>?_⟩
    by_cases e:v=k
    ·subst e
     exact Classical.byContradiction fun hx=>h ⟨hfv,hcv,by rw[fK];omega⟩
    ·exact h8 v (by omega) hcv hfv
theorem Vp {c fin:List Int} {k:Nat} (h1:fin.getD k 0≠ -1) (h2:c.getD k 0≠ -1) (h3:better (c.getD k 0+fin.getD k 0) (dT c fin k).2=true):dT c fin (k+1)=((k:Int),c.getD k 0+fin.getD k 0):=if_pos ⟨h1,h2,h3⟩
theorem Bh {c fin:List Int} {k:Nat} (h:fin.getD k 0= -1\/c.getD k 0= -1\/better (c.getD k 0+fin.getD k 0) (dT c fin k).2=false):dT c fin (k+1)=dT c fin k:=
 if_neg fun hh=>by
  rcases h with h|h|h
  ·exact hh.1 h
  ·exact hh.2.1 h
  ·rw[h]at hh;cases hh.2.2
section
variable {α:Type} {d:α}
structure Mv (d:α) (a b:Nat) (xs ys:List α):Prop where
 len:ys.length=xs.length
 perm:ys.Perm xs
 out: ∀k,k<a\/b<=k->ys.getD k d=xs.getD k d
 ins: ∀k,a<=k->k<b-> ∃k',a<=k'/\k'<b/\ys.getD k d=xs.getD k' d
theorem Mv.refl (a b:Nat) (xs:List α):Mv d a b xs xs:=⟨rfl,.refl _,fun _ _=>rfl,fun k h1 h2=>⟨k,h1,h2,rfl⟩⟩
theorem Mv.trans {a b:Nat} {xs ys zs:List α} (h:Mv d a b xs ys) (h':Mv d a b ys zs):Mv d a b xs zs where
 len:=h'.len.trans h.len
 perm:=h'.perm.trans h.perm
 out:=fun k hk=>(h'.out k hk).trans (h.out k hk)
 ins:=fun k h1 h2=>by
  obtain⟨k',g1,g2,g3⟩:=h'.ins k h1 h2
  obtain⟨k'',f1,f2,f3⟩:=h.ins k' g1 g2
  exact⟨k'',f1,f2,g3.trans f3⟩
theorem Mv.wide {a b a' b':Nat} {xs ys:List α} (h:Mv d a b xs ys) (ha:a'<=a) (hb:b<=b'):Mv d a' b' xs ys where
 len:=h.len
 perm:=h.perm
 out:=fun k hk=>h.out k (by omega)
 ins:=fun k h1 h2=>by
  by_cases hk:a<=k/\k<b
  ·obtain⟨k',g1,g2,g3⟩:=h.ins k hk.1 hk.2
   exact⟨k',by omega,by omega,g3⟩
  ·exact⟨k,h1,h2,h.out k (by omega)⟩
def gK (d:α) (xs:List α) (i j:Nat):List α:=(xs.set i (xs.getD j d)).set j (xs.getD i d)
theorem Sv (xs:List α) (i j:Nat):(gK d xs i j).length=xs.length:=by simp[gK]
theorem vV {β:Type} (c:List β) (i v:Nat) (x d:β):(c.set i x).getD v d=if i=v/\v<c.length then x else c.getD v d:=by
 by_cases h:i=v
 ·subst h
  by_cases h2:i<c.length
  ·simp[List.getD,h2]
  ·simp[List.getD,h2]
 ·simp[List.getD,List.getElem?_set_ne h,h]
theorem gP {xs:List α} {i j:Nat} (hi:i<xs.length) (hj:j<xs.length) (k:Nat):(gK d xs i j).getD k d=if k=j then xs.getD i d else if k=i then xs.getD j d else xs.getD k d:=by
 unfold gK
 rw[vV,vV,List.length_set]
 by_cases h1:k=j
 ·subst h1
  rw[if_pos ⟨rfl,hj⟩,if_pos rfl]
 ·rw[if_neg (fun c=>h1 c.1.symm),if_neg h1]
  by_cases h2:k=i
  ·subst h2
   rw[if_pos ⟨rfl,hi⟩,if_pos rfl]
  ·rw[if_neg (fun c=>h2 c.1.symm),if_neg h2]
theorem sU {xs:List α} {a b i j:Nat} (hi:a<=i/\i<b) (hj:a<=j/\j<b) (hb:b<=xs.length):Mv d a b xs (gK d xs i j)where
 len:=Sv xs i j
 perm:=by
  have e1:xs.getD j d=xs[j]'(by omega):=by simp[List.getD,show j<xs.length by omega]
  have e2:xs.getD i d=xs[i]'(by omega):=by simp[List.getD,show i<xs.length by omega]
  unfold gK
  rw[e1,e2]
  exact List.set_set_perm (by omega) (by omega)
 out:=fun k hk=>by rw[gP (by omega) (by omega),if_neg (by omega),if_neg (by omega)]
 ins:=fun k h1 h2=>by
  rw[gP (by omega) (by omega)]
  by_cases e:k=j
  ·exact⟨i,hi.1,hi.2,by rw[if_pos e]⟩
  ·by_cases e':k=i
   ·exact⟨j,hj.1,hj.2,by rw[if_neg e,if_pos e']⟩
   ·exact⟨k,h1,h2,by rw[if_neg e,if_neg e']⟩
structure wN (lt:α->α->Bool):Prop where
 asym: ∀x y,lt x y=true->lt y x=false
 trans: ∀x y z,lt y x=false->lt z y=false->lt z x=false
variable {lt:α->α->Bool}
def aS (d:α) (lt:α->α->Bool) (a b:Nat) (xs:List α):Prop:= ∀i j,a<=i->i<j->j<b->lt (xs.getD j d) (xs.getD i d)=false
theorem aS.cong {a b:Nat} {xs ys:List α} (h:aS d lt a b xs) (he: ∀k,a<=k->k<b->ys.getD k d=xs.getD k d):aS d lt a b ys:=by
 intro i j h1 h2 h3
 rw[he i h1 (by omega),he j (by omega) h3]
 exact h i j h1 h2 h3
theorem aS.one {a b:Nat} {xs:List α} (h:b<=a+1):aS d lt a b xs:=fun i j h1 h2 h3=>by omega
theorem wN.irr (h:wN lt) (x:α):lt x x=false:=by
 cases e:lt x x with
 |false=>rfl
 |true=>have:=h.asym x x e;rw[e]at this;cases this
theorem aS.le (hlt:wN lt) {a b:Nat} {xs:List α} (h:aS d lt a b xs) {i j:Nat} (h1:a<=i) (h2:i<=j) (h3:j<b):lt (xs.getD j d) (xs.getD i d)=false:=by
 by_cases e:i=j
 ·subst e;exact hlt.irr _
 ·exact h i j h1 (by omega) h3
def uO (d:α) (lt:α->α->Bool) (a i j:Nat) (xs:List α):Prop:= ∀p q,a<=p->p<q->q<=i->q≠j->lt (xs.getD q d) (xs.getD p d)=false
theorem uO.start {a i:Nat} {xs:List α} (h:aS d lt a i xs):uO d lt a i i xs:=fun p q h1 h2 h3 h4=>h p q h1 h2 (by omega)
theorem uO.step (hlt:wN lt) {a i j:Nat} {xs:List α} (h:uO d lt a i j xs) (hj:a<j) (hji:j<=i) (hi:i<xs.length) (hx:lt (xs.getD j d) (xs.getD (j-1) d)=true):uO d lt a i (j-1) (gK d xs j (j-1)):=by
 intro p q h1 h2 h3 h4
 have hg:=gP (d:=d) (xs:=xs) (i:=j) (j:=j-1) (by omega) (by omega)
 rw[hg,hg,if_neg h4]
 by_cases e:q=j
 ·subst e
  rw[if_pos rfl]
  by_cases e2:p=q-1
  ·rw[if_pos e2];exact hlt.asym _ _ hx
  ·rw[if_neg e2,if_neg (by omega)];exact h p (q-1) h1 (by omega) (by omega) (by omega)
 ·rw[if_neg e]
  by_cases e2:p=j-1
  ·rw[if_pos e2];exact h j q (by omega) (by omega) h3 e
  ·rw[if_neg e2]
   by_cases e3:p=j
   ·rw[if_pos e3];exact h (j-1) q (by omega) (by omega) h3 e
   ·rw[if_neg e3];exact h p q h1 h2 h3 e
theorem uO.done (hlt:wN lt) {a i j:Nat} {xs:List α} (h:uO d lt a i j xs) (hji:j<=i) (hx:j<=a\/lt (xs.getD j d) (xs.getD (j-1) d)=false):aS d lt a (i+1) xs:=by
 intro p q h1 h2 h3
 by_cases e:q=j
 ·subst e
  rcases hx with hx|hx
  ·omega
  ·by_cases e2:p=q-1
   ·rw[e2];exact hx
   ·exact hlt.trans _ _ _ (h p (q-1) h1 (by omega) (by omega) (by omega)) hx
 ·exact h p q h1 h2 (by omega) e
def Bq (d:α) (a b k:Nat) (xs ys:List α):Prop:= ∀p,ys.getD p d=if a<=p/\p<a+k then xs.getD (p-a+b) d else if b<=p/\p<b+k then xs.getD (p-b+a) d else xs.getD p d
theorem Bq.zero (a b:Nat) (xs:List α):Bq d a b 0 xs xs:=fun p=>by rw[if_neg (by omega),if_neg (by omega)]
theorem Bq.step {a b k n:Nat} {xs ys:List α} (h:Bq d a b k xs ys) (hl:ys.length=xs.length) (hk:k<n) (hab:a+n<=b) (hb:b+n<=xs.length):Bq d a b (k+1) xs (gK d ys (a+k) (b+k)):=by
 intro p
 rw[gP (by omega) (by omega)]
 have h1:=h p
 have h2:=h (a+k)
 have h3:=h (b+k)
 rw[if_neg (by omega),if_neg (by omega)]at h2 h3
 by_cases e1:p=b+k
 ·subst e1
  rw[if_pos rfl,if_neg (by omega),if_pos (by omega),h2]
  congr 1;omega
 ·rw[if_neg e1]
  by_cases e2:p=a+k
  ·subst e2
   rw[if_pos rfl,if_pos (by omega),h3]
   congr 1;omega
  ·rw[if_neg e2,h1]
   by_cases e3:a<=p/\p<a+k
   ·rw[if_pos e3,if_pos (by omega)]
   ·by_cases e4:b<=p/\p<b+k
    ·rw[if_neg e3,if_pos e4,if_neg (by omega),if_pos (by omega)]
    ·rw[if_neg e3,if_neg e4,if_neg (by omega),if_neg (by omega)]
def cN (d:α) (a m b:Nat) (xs ys:List α):Prop:= ∀p,ys.getD p d=if a<=p/\p<a+(b-m)then xs.getD (p-a+m) d else if a+(b-m)<=p/\p<b then xs.getD (p-(b-m)) d else xs.getD p d
theorem cN.left {a m b i j:Nat} {xs ys zs:List α} (h: ∀us,cN d (m-i) m (m+j) ys us->cN d a m b xs us) (hij:j<i) (him:i<=m) (hs:Bq d (m-i) m j ys zs): ∀us,cN d (m-(i-j)) m (m+j) zs us->cN d a m b xs us:=by
 intro us hu
 refine h us fun p=>?_
 rw[hu p]
 have h1:=hs p
 have h2:=hs (p-(m-(i-j))+m)
 have h3:=hs (p-(m+j-m))
 by_cases c1:m-i<=p/\p<m-i+j
 ·rw[if_neg (by omega),if_neg (by omega),h1,if_pos c1,if_pos (by omega)]
 ·by_cases c2:m-(i-j)<=p/\p<m-(i-j)+j
  ·rw[if_pos (by omega),h2,if_neg (by omega),if_pos (by omega),if_neg (by omega),if_pos (by omega)]
   congr 1;omega
  ·by_cases c3:m-(i-j)+j<=p/\p<m+j
   ·rw[if_neg (by omega),if_pos (by omega),h3,if_neg (by omega),if_neg (by omega),if_neg (by omega),if_pos (by omega)]
   ·rw[if_neg (by omega),if_neg (by omega),h1,if_neg (by omega),if_neg (by omega),if_neg (by omega),if_neg (by omega)]
theorem cN.right {a m b i j:Nat} {xs ys zs:List α} (h: ∀us,cN d (m-i) m (m+j) ys us->cN d a m b xs us) (hij:i<j) (him:i<=m) (hs:Bq d (m-i) (m+j-i) i ys zs): ∀us,cN d (m-i) m (m+(j-i)) zs us->cN d a m b xs us:=by
 intro us hu
 refine h us fun p=>?_
 rw[hu p]
 have h1:=hs p
 have h2:=hs (p-(m-i)+m)
 have h3:=hs (p-(m+(j-i)-m))
 by_cases c1:m-i<=p/\p<m-i+(j-i)
 ·rw[if_pos (by omega),h2,if_neg (by omega),if_neg (by omega),if_pos (by omega)]
 ·by_cases c2:m-i+(j-i)<=p/\p<m+(j-i)
  ·rw[if_neg (by omega),if_pos (by omega),h3,if_pos (by omega),if_pos (by omega)]
   congr 1;omega
  ·by_cases c3:m+(j-i)<=p/\p<m+j
   ·rw[if_neg (by omega),if_neg (by omega),h1,if_neg (by omega),if_pos (by omega),if_neg (by omega),if_pos (by omega)]
    congr 1;omega
   ·rw[if_neg (by omega),if_neg (by omega),h1,if_neg (by omega),if_neg (by omega),if_neg (by omega),if_neg (by omega)]
theorem cN.last {m i:Nat} {ys zs:List α} (him:i<=m) (hs:Bq d (m-i) m i ys zs):cN d (m-i) m (m+i) ys zs:=by
 intro p
 rw[hs p]
 by_cases c1:m-i<=p/\p<m-i+i
 ·rw[if_pos c1,if_pos (by omega)]
 ·by_cases c2:m<=p/\p<m+i
  ·rw[if_neg c1,if_pos c2,if_neg (by omega),if_pos (by omega)]
   congr 1;omega
  ·rw[if_neg c1,if_neg c2,if_neg (by omega),if_neg (by omega)]
end
section
variable {α:Type} {d:α} {lt:α->α->Bool}
theorem cN.none {a m b:Nat} {xs:List α} (h:m=a\/b=m):cN d a m b xs xs:=by
 intro p
 rcases h with rfl|rfl
 ·by_cases c:m<=p/\p<m+(b-m)
  ·rw[if_pos c];congr 1;omega
  ·rw[if_neg c,if_neg (by omega)]
 ·rw[if_neg (by omega)]
  by_cases c:a+(b-b)<=p/\p<b
  ·rw[if_pos c];congr 1;omega
  ·rw[if_neg c]
theorem cN.fwd {a k:Nat} {xs ys:List α} (h:cN d a (a+1) (k+1) xs ys) (hl:ys.length=xs.length) (ha:a<=k) (hk:k+1<xs.length):cN d a (a+1) (k+1+1) xs (gK d ys k (k+1)):=by
 intro p
 rw[gP (by omega) (by omega)]
 have h1:=h p
 have h2:=h k
 have h3:=h (k+1)
 rw[if_neg (by omega),if_pos (by omega)]at h2
 rw[if_neg (by omega),if_neg (by omega)]at h3
 by_cases e1:p=k+1
 ·subst e1
  rw[if_pos rfl,if_neg (by omega),if_pos (by omega),h2]
  congr 1;omega
 ·rw[if_neg e1]
  by_cases e2:p=k
  ·subst e2
   rw[if_pos rfl,if_pos (by omega),h3]
   congr 1;omega
  ·rw[if_neg e2,h1]
   by_cases e3:a<=p/\p<a+(k+1-(a+1))
   ·rw[if_pos e3,if_pos (by omega)]
   ·rw[if_neg e3,if_neg (by omega),if_neg (by omega),if_neg (by omega)]
theorem cN.bwd {m k:Nat} {xs ys:List α} (h:cN d k m (m+1) xs ys) (hl:ys.length=xs.length) (hk:0<k) (hkm:k<=m) (hm:m<xs.length):cN d (k-1) m (m+1) xs (gK d ys k (k-1)):=by
 intro p
 rw[gP (by omega) (by omega)]
 have h1:=h p
 have h2:=h k
 have h3:=h (k-1)
 rw[if_pos (by omega)]at h2
 rw[if_neg (by omega),if_neg (by omega)]at h3
 by_cases e1:p=k-1
 ·subst e1
  rw[if_pos rfl,if_pos (by omega),h2]
  congr 1;omega
 ·rw[if_neg e1]
  by_cases e2:p=k
  ·subst e2
   rw[if_pos rfl,if_neg (by omega),if_pos (by omega),h3]
   congr 1;omega
  ·rw[if_neg e2,h1]
   by_cases e3:k+(m+1-m)<=p/\p<m+1
   ·rw[if_neg (by omega),if_pos e3,if_neg (by omega),if_pos (by omega)]
   ·rw[if_neg (by omega),if_neg e3,if_neg (by omega),if_neg (by omega)]
theorem Uw (hlt:wN lt) {a b i:Nat} {xs ys:List α} (hs:aS d lt (a+1) b xs) (hi:a+1<=i) (hib:i<=b) (h1: ∀k,a+1<=k->k<i->lt (xs.getD k d) (xs.getD a d)=true) (h2: ∀k,i<=k->k<b->lt (xs.getD k d) (xs.getD a d)=false)
  (hr:cN d a (a+1) i xs ys):aS d lt a b ys:=by
 intro p q hp hpq hq
 rw[hr p,hr q]
 by_cases c1:q<a+(i-(a+1))
 ·rw[if_pos (by omega),if_pos (by omega)]
  exact hs _ _ (by omega) (by omega) (by omega)
 ·by_cases c2:q=a+(i-(a+1))
  ·rw[if_neg (by omega),if_pos (by omega),if_pos (by omega)]
   have e:q-(i-(a+1))=a:=by omega
   rw[e]
   exact hlt.asym _ _ (h1 _ (by omega) (by omega))
  ·rw[if_neg (by omega),if_neg (by omega)]
   by_cases c3:p<a+(i-(a+1))
   ·rw[if_pos (by omega)];exact hs _ _ (by omega) (by omega) (by omega)
   ·by_cases c4:p=a+(i-(a+1))
    ·rw[if_neg (by omega),if_pos (by omega)]
     have e:p-(i-(a+1))=a:=by omega
     rw[e]
     exact h2 _ (by omega) hq
    ·rw[if_neg (by omega),if_neg (by omega)]
     exact hs _ _ (by omega) hpq hq
theorem Zt (hlt:wN lt) {a m i:Nat} {xs ys:List α} (hs:aS d lt a m xs) (hi:a<=i) (him:i<=m) (h1: ∀k,a<=k->k<i->lt (xs.getD m d) (xs.getD k d)=false) (h2: ∀k,i<=k->k<m->lt (xs.getD m d) (xs.getD k d)=true)
  (hr:cN d i m (m+1) xs ys):aS d lt a (m+1) ys:=by
 intro p q hp hpq hq
 rw[hr p,hr q]
 by_cases c1:q<i
 ·rw[if_neg (by omega),if_neg (by omega),if_neg (by omega),if_neg (by omega)]
  exact hs _ _ hp hpq (by omega)
 ·by_cases c2:q=i
  ·subst c2
   rw[if_pos (by omega),if_neg (by omega),if_neg (by omega)]
   have e:q-q+m=m:=by omega
   rw[e]
   exact h1 _ hp (by omega)
  ·rw[if_neg (by omega),if_pos (by omega)]
   by_cases c3:p<i
   ·rw[if_neg (by omega),if_neg (by omega)];exact hs _ _ hp (by omega) (by omega)
   ·by_cases c4:p=i
    ·subst c4
     rw[if_pos (by omega)]
     have e:p-p+m=m:=by omega
     rw[e]
     exact hlt.asym _ _ (h2 _ (by omega) (by omega))
    ·rw[if_neg (by omega),if_pos (by omega)]
     exact hs _ _ (by omega) (by omega) (by omega)
structure Lt (d:α) (lt:α->α->Bool) (lo hi p s r:Nat) (xs:List α):Prop where
 l:lo<=s
 m:s<=r
 h:r<=hi
 lf:s=lo\/lt (xs.getD (p-(s-1)) d) (xs.getD (s-1) d)=false
 rt:r=hi\/lt (xs.getD (p-r) d) (xs.getD r d)=true
def aAH (d:α) (lt:α->α->Bool) (a mid b:Nat) (ys:List α):Prop:= ∀i j,a<=i->i<mid->mid<=j->j<b->lt (ys.getD j d) (ys.getD i d)=false
theorem Ch (hlt:wN lt) {a m b mid lo hi s:Nat} {xs ys:List α} (h1:aS d lt a m xs) (h2:aS d lt m b xs) (ham:a<m) (hmb:m<b) (hmid:mid=(a+b) / 2)
  (hlh:(mid<m/\lo=mid+m-b/\hi=mid)\/(m<=mid/\lo=a/\hi=m)) (hs:Lt d lt lo hi (mid+m-1) s s xs) (hr:cN d s m (mid+m-s) xs ys):
  aAH d lt a mid b ys/\aS d lt a s ys/\aS d lt s mid ys/\aS d lt mid (mid+m-s) ys/\aS d lt (mid+m-s) b ys:=by
 have hl:=hs.l
 have hh:=hs.h
 have g1:a<=s/\s<=mid/\s<=m/\mid<=mid+m-s/\m<=mid+m-s/\mid+m-s<=b:=by omega
 obtain⟨g1,g2,g3,g4,g5,g6⟩:=g1
 generalize he:mid+m-s=e at*
 have r1: ∀p,a<=p->p<s->ys.getD p d=xs.getD p d:=fun p _ _=>by rw[hr p,if_neg (by omega),if_neg (by omega)]
 have r2: ∀p,s<=p->p<mid->ys.getD p d=xs.getD (p-s+m) d:=fun p _ _=>by rw[hr p,if_pos (by omega)]
 have r3: ∀p,mid<=p->p<e->ys.getD p d=xs.getD (p-(e-m)) d:=fun p _ _=>by rw[hr p,if_neg (by omega),if_pos (by omega)]
 have r4: ∀p,e<=p->p<b->ys.getD p d=xs.getD p d:=fun p _ _=>by rw[hr p,if_neg (by omega),if_neg (by omega)]
 refine⟨?_,?_,?_,?_,?_⟩
 ·intro i j hi1 hi2 hj1 hj2
  by_cases c1:i<s
  ·rw[r1 i hi1 c1]
   by_cases c2:j<e
   ·rw[r3 j hj1 c2]
    exact h1 _ _ hi1 (by omega) (by omega)
   ·rw[r4 j (by omega) hj2]
    have hx:lt (xs.getD e d) (xs.getD (s-1) d)=false:=by
     rcases hs.lf with h|h
     ·omega
     ·have:mid+m-1-(s-1)=e:=by omega
      rw[this]at h
      exact h
    have k1:=h1.le hlt (i:=i) (j:=s-1) hi1 (by omega) (by omega)
    have k2:=h2.le hlt (i:=e) (j:=j) (by omega) (by omega) hj2
    exact hlt.trans _ _ _ k1 (hlt.trans _ _ _ hx k2)
  ·rw[r2 i (by omega) hi2]
   by_cases c2:j<e
   ·rw[r3 j hj1 c2]
    have hx:lt (xs.getD (e-1) d) (xs.getD s d)=true:=by
     rcases hs.rt with h|h
     ·omega
     ·have:mid+m-1-s=e-1:=by omega
      rw[this]at h
      exact h
    have k1:=h2.le hlt (i:=i-s+m) (j:=e-1) (by omega) (by omega) (by omega)
    have k2:=h1.le hlt (i:=s) (j:=j-(e-m)) (by omega) (by omega) (by omega)
    exact hlt.trans _ _ _ k1 (hlt.trans _ _ _ (hlt.asym _ _ hx) k2)
   ·rw[r4 j (by omega) hj2]
    exact h2 _ _ (by omega) (by omega) hj2
 ·intro i j hi1 hij hj
  rw[r1 i hi1 (by omega),r1 j (by omega) hj]
  exact h1 i j hi1 hij (by omega)
 ·intro i j hi1 hij hj
  rw[r2 i hi1 (by omega),r2 j (by omega) hj]
  exact h2 _ _ (by omega) (by omega) (by omega)
 ·intro i j hi1 hij hj
  rw[r3 i hi1 (by omega),r3 j (by omega) hj]
  exact h1 _ _ (by omega) (by omega) (by omega)
 ·intro i j hi1 hij hj
  rw[r4 i hi1 (by omega),r4 j (by omega) hj]
  exact h2 _ _ (by omega) hij hj
theorem pL {a mid b:Nat} {ys zs us:List α} (hc:aAH d lt a mid b ys) (h1:Mv d a mid ys zs) (s1:aS d lt a mid zs) (h2:Mv d mid b zs us) (s2:aS d lt mid b us):aS d lt a b us:=by
 intro i j hi hij hj
 by_cases c1:j<mid
 ·rw[h2.out i (by omega),h2.out j (by omega)]
  exact s1 i j hi hij c1
 ·by_cases c2:i<mid
  ·obtain⟨j',g1,g2,g3⟩:=h2.ins j (by omega) hj
   rw[g3,h2.out i (by omega),h1.out j' (by omega)]
   obtain⟨i',f1,f2,f3⟩:=h1.ins i hi c2
   rw[f3]
   exact hc i' j' f1 f2 g1 g2
  ·exact s2 i j (by omega) hij hj
def Bz (d:α) (lt:α->α->Bool) (bs a:Nat) (ys:List α):Prop:= ∃t,a=t*bs/\ ∀s,s<t->aS d lt (s*bs) ((s+1)*bs) ys
def Ey (d:α) (lt:α->α->Bool) (bs n:Nat) (ys:List α):Prop:= ∀s,aS d lt (s*bs) (min ((s+1)*bs) n) ys
def wO (d:α) (lt:α->α->Bool) (bs n a:Nat) (ys:List α):Prop:= ∃t,a=t*(2*bs)/\(∀s,s<t->aS d lt (s*(2*bs)) ((s+1)*(2*bs)) ys)/\ ∀s,2*t<=s->aS d lt (s*bs) (min ((s+1)*bs) n) ys
theorem Bz.zero (bs:Nat) (ys:List α):Bz d lt bs 0 ys:=⟨0,by simp,fun s h=>by omega⟩
theorem Bz.next {bs a:Nat} {ys zs:List α} (h:Bz d lt bs a ys) (hm:Mv d a (a+bs) ys zs) (hs:aS d lt a (a+bs) zs):Bz d lt bs (a+bs) zs:=by
 obtain⟨t,rfl,h2⟩:=h
 refine⟨t+1,by rw[Nat.succ_mul],fun s hst=>?_⟩
 by_cases e:s=t
 ·subst e;rw[Nat.succ_mul];exact hs
 ·have hle:(s+1)*bs<=t*bs:=Nat.mul_le_mul_right _ (by omega)
  exact(h2 s (by omega)).cong fun k _ hk=>hm.out k (.inl (by omega))
theorem Bz.done {bs a n:Nat} {ys zs:List α} (h:Bz d lt bs a ys) (han:a<=n) (hn:n<a+bs) (hm:Mv d a n ys zs) (hs:aS d lt a n zs):Ey d lt bs n zs:=by
 obtain⟨t,rfl,h2⟩:=h
 intro s
 by_cases c:s<t
 ·have hle:(s+1)*bs<=t*bs:=Nat.mul_le_mul_right _ (by omega)
  rw[Nat.min_eq_left (by omega)]
  exact(h2 s c).cong fun k _ hk=>hm.out k (.inl (by omega))
 ·by_cases e:s=t
  ·subst e
   rw[Nat.min_eq_right (by rw[Nat.succ_mul];omega)]
   exact hs
  ·have hle:(t+1)*bs<=s*bs:=Nat.mul_le_mul_right _ (by omega)
   rw[Nat.succ_mul]at hle
   intro i j h1 h2 h3
   have:=Nat.min_le_right ((s+1)*bs) n
   omega
theorem wO.zero {bs n:Nat} {ys:List α} (h:Ey d lt bs n ys):wO d lt bs n 0 ys:=⟨0,by simp,fun s h=>by omega,fun s _=>h s⟩
theorem wO.two {bs n a:Nat} {ys:List α} (h:wO d lt bs n a ys) (hab:a+bs<=n):aS d lt a (a+bs) ys/\aS d lt (a+bs) (min (a+2*bs) n) ys:=by
 obtain⟨t,rfl,h2,h3⟩:=h
 have e1:2*t*bs=t*(2*bs):=by rw[Nat.mul_comm 2 t,Nat.mul_assoc]
 have e2:(2*t+1)*bs=t*(2*bs)+bs:=by rw[Nat.succ_mul,e1]
 have e3:(2*t+1+1)*bs=t*(2*bs)+2*bs:=by rw[Nat.succ_mul,e2];omega
 have k1:=h3 (2*t) (Nat.le_refl _)
 have k2:=h3 (2*t+1) (by omega)
 rw[e2,e1,Nat.min_eq_left hab]at k1
 rw[e3,e2]at k2
 exact⟨k1,k2⟩
theorem wO.next {bs n a:Nat} {ys zs:List α} (h:wO d lt bs n a ys) (hm:Mv d a (a+2*bs) ys zs) (hs:aS d lt a (a+2*bs) zs):wO d lt bs n (a+2*bs) zs:=by
 obtain⟨t,rfl,h2,h3⟩:=h
 refine⟨t+1,(Nat.succ_mul t (2*bs)).symm,fun s hst=>?_,fun s hst=>?_⟩
 ·by_cases e:s=t
  ·subst e;rw[Nat.succ_mul s (2*bs)];exact hs
  ·have hle:(s+1)*(2*bs)<=t*(2*bs):=Nat.mul_le_mul_right _ (by omega)
   exact(h2 s (by omega)).cong fun k _ hk=>hm.out k (.inl (by omega))
 ·have hle:(2*t+2)*bs<=s*bs:=Nat.mul_le_mul_right _ (by omega)
  have e1:(2*t+2)*bs=t*(2*bs)+2*bs:=by rw[Nat.add_mul,Nat.mul_comm 2 t,Nat.mul_assoc]
  exact(h3 s (by omega)).cong fun k hk _=>hm.out k (.inr (by omega))
theorem wO.done {bs n a:Nat} {ys zs:List α} (h:wO d lt bs n a ys) (han:a<=n) (hn:n<a+2*bs) (hm:Mv d a n ys zs) (hs:aS d lt a n zs):Ey d lt (2*bs) n zs:=by
 obtain⟨t,rfl,h2,_⟩:=h
 exact Bz.done ⟨t,rfl,h2⟩ han hn hm hs
theorem Ey.all {bs n:Nat} {ys:List α} (h:Ey d lt bs n ys) (hn:n<=bs):aS d lt 0 n ys:=by
 have:=h 0
 rwa [Nat.zero_mul,Nat.zero_add,Nat.one_mul,Nat.min_eq_right hn]at this
end
theorem nF {a b c:Arc} (h1:bF a b=true) (h2:bF b c=true):bF a c=true:=by
 unfold bF at*
 repeat' split at h1
 all_goals repeat' split at h2
 all_goals repeat' split
 all_goals simp only[decide_eq_true_eq,Bool.false_eq_true]at*
 all_goals omega
theorem nG (a:Arc):bF a a=false:=by simp[bF]
theorem Ho {a b:Arc} (h1:bF a b=true):bF b a=false:=by
 cases h:bF b a with
 |false=>rfl
 |true=>have:=nF h1 h;rw[nG]at this;cases this
def Srt (l:List Arc):Prop:=l.Pairwise fun a b=>bF a b=true
theorem wJ {st:Int}: ∀(l:List Arc) (p:Option Arc),nN st p l=0 <-> (∀a∈l,nR st a)/\Srt l/\ ∀b,p=some b-> ∀a∈l,bF b a=true
 | [],p=>by simp[wI,Srt]
 |x::l,p=>by
  rw[nC]
  have ih:=wJ (st:=st) l (some x)
  have hx:nR st x <-> kW st x=true/\iQ x=true:=by
   simp only[kW,iQ,Bool.and_eq_true,decide_eq_true_eq]
   constructor
   ·intro h;have:=h.f0;have:=h.f1;have:=h.t0;have:=h.t1;have:=h.w0;have:=h.w1;have:=h.i0;have:=h.o0;omega
   ·intro h;exact⟨by omega,by omega,by omega,by omega,by omega,by omega,by omega,by omega⟩
  cases h1:kW st x with
  |false=>
   simp only[Bool.not_false,if_true]
   constructor
   ·intro h;cases h
   ·intro h;have:=hx.1 (h.1 x (by simp));rw[h1]at this;cases this.1
  |true=>
   cases h2:iQ x with
   |false=>
    simp only[Bool.not_true,Bool.false_eq_true,if_false,Bool.not_false,if_true]
    constructor
    ·intro h;cases h
    ·intro h;have:=hx.1 (h.1 x (by simp));rw[h2]at this;cases this.2
   |true=>
    have hxo:=hx.2 ⟨h1,h2⟩
    simp only[Bool.not_true,Bool.false_eq_true,if_false]
    cases p with
    |none=>
     simp only[Bool.false_eq_true,if_false,ih]
     simp only[List.mem_cons,forall_eq_or_imp,Srt,List.pairwise_cons,reduceCtorEq,false_implies,implies_true,and_true,Option.some.injEq,forall_eq']
     constructor
     ·rintro⟨g1,g2,g3⟩;exact⟨⟨hxo,g1⟩,g3,g2⟩
     ·rintro⟨⟨_,g1⟩,g3,g2⟩;exact⟨g1,g2,g3⟩
    |some b=>
     simp only
     by_cases h3:bF b x=true
     ·rw[if_neg (by rw[h3];decide),ih]
      simp only[List.mem_cons,forall_eq_or_imp,Srt,List.pairwise_cons,Option.some.injEq,forall_eq']
      constructor
      ·rintro⟨g1,g2,g3⟩;exact⟨⟨hxo,g1⟩,⟨g3,g2⟩,h3,fun a ha=>nF h3 (g3 a ha)⟩
      ·rintro⟨⟨_,g1⟩,⟨g3,g2⟩,_,_⟩;exact⟨g1,g2,g3⟩
     ·rw[if_pos (by simp[h3])]
      constructor
      ·intro h;cases h
      ·intro h;exact absurd (h.2.2 b rfl x (by simp)) h3
theorem Aa {F:TF}:aL F=0 <-> FOk F/\Srt F.arcs:=by
 constructor
 ·intro h
  refine⟨aK h,?_⟩
  unfold aL at h
  split at h
  ·cases h
  split at h
  ·cases h
  split at h
  ·cases h
  split at h
  ·cases h
  split at h
  ·cases h
  exact((wJ _ _).1 h).2.1
 ·rintro⟨h,h2⟩
  have:=h.st
  have:=h.start
  have:=h.arcl
  unfold aL
  rw[if_neg (by omega),if_neg (by omega),if_neg (by have:=h.finl;omega),if_neg (fun c=>c h.fin),if_neg (by omega)]
  exact(wJ _ _).2 ⟨h.arc,h2,fun b hb=>by cases hb⟩
def lab (x:Int):List Int:=if x=0 then []else [x]
inductive Way (L:List Arc):Int->List Int->List Int->Int->Int->Prop
 |nil (s:Int):Way L s [] [] s 0
 |cons {a:Arc} {u v:List Int} {t c:Int} (ha:a∈L) (h:Way L a.t u v t c):Way L a.f (lab a.i++u) (lab a.o++v) t (a.w+c)
theorem Way.app {L:List Arc} {s t r:Int} {u v u' v':List Int} {c d:Int} (h:Way L s u v t c) (h':Way L t u' v' r d):Way L s (u++u') (v++v') r (c+d):=by
 induction h with
 |nil s=>simpa using h'
 |cons ha h ih=>
  rw[List.append_assoc,List.append_assoc,Int.add_assoc]
  exact .cons ha (ih h')
theorem Way.one {L:List Arc} {a:Arc} (ha:a∈L):Way L a.f (lab a.i) (lab a.o) a.t a.w:=by
 have:=Way.cons ha (.nil a.t)
 simpa using this
theorem Way.snoc {L:List Arc} {s:Int} {u v:List Int} {c:Int} {a:Arc} (h:Way L s u v a.f c) (ha:a∈L):Way L s (u++lab a.i) (v++lab a.o) a.t (c+a.w):=h.app (.one ha)
theorem Way.mono {L L':List Arc} (hL: ∀a∈L,a∈L') {s t:Int} {u v:List Int} {c:Int} (h:Way L s u v t c):Way L' s u v t c:=by
 induction h with
 |nil s=>exact .nil s
 |cons ha h ih=>exact .cons (hL _ ha) ih
theorem Way.pos {L:List Arc} {st:Int} (hL: ∀a∈L,nR st a) {s t:Int} {u v:List Int} {c:Int} (h:Way L s u v t c):0<=c:=by
 induction h with
 |nil s=>exact Int.le_refl _
 |cons ha h ih=>have:=(hL _ ha).w0;omega
theorem Way.rng {L:List Arc} {st:Int} (hL: ∀a∈L,nR st a) {s t:Int} {u v:List Int} {c:Int} (h:Way L s u v t c) (hs:0<=s/\s<st):0<=t/\t<st:=by
 induction h with
 |nil s=>exact hs
 |cons ha h ih=>exact ih ⟨(hL _ ha).t0,(hL _ ha).t1⟩
def Wt (F:TF) (u v:List Int) (c:Int):Prop:= ∃t d,Way F.arcs F.start u v t d/\F.fin.getD t.toNat 0≠ -1/\c=d+F.fin.getD t.toNat 0
def cB (P:Int->Prop) (n:Int):Prop:=(n= -1/\ ∀c,¬P c)\/(0<=n/\P n/\ ∀c,P c->n<=c)
theorem cB.le {P:Int->Prop} {n c:Int} (h:cB P n) (hc:P c):n≠ -1/\n<=c:=by
 rcases h with⟨_,h⟩|⟨h0,_,h2⟩
 ·exact absurd hc (h c)
 ·exact⟨by omega,h2 c hc⟩
theorem cB.is {P:Int->Prop} {n:Int} (h:cB P n) (hn:n≠ -1):P n:=by
 rcases h with⟨h,_⟩|⟨_,h,_⟩
 ·exact absurd h hn
 ·exact h
theorem cB.low {P:Int->Prop} {n:Int} (h:cB P n): -1<=n:=by
 rcases h with⟨h,_⟩|⟨h,_⟩<;>omega
def Kw (a b:Arc):Int:=orI [iW a b,jB a.w b.w]
def ltW (a b:Arc):Bool:=decide (Kw a b<0)
def jE (a b:Arc):Bool:=decide (iW a b=0)
theorem aAo {x y:Int}:jB x y<0 <-> x<y:=by
 unfold jB
 by_cases h1:x<y
 ·simp[h1]
 ·by_cases h2:x>y<;>simp[h1,h2]
theorem tN {x y:Int} {l:List Int}:orI (jB x y::l)<0 <-> x<y\/(x=y/\orI l<0):=by
 by_cases e:x=y
 ·subst e;rw[kC,kM];omega
 ·rw[gT (mZ e),aAo];omega
theorem tM {x y:Int} {l:List Int}:orI (jB x y::l)=0 <-> (x=y/\orI l=0):=by
 by_cases e:x=y
 ·subst e;rw[kC,kM];simp
 ·rw[gT (mZ e)]
  have:=mZ e
  omega
theorem Fz:orI []=0:=rfl
theorem Nd {a b:Arc}:iW a b<0 <-> a.f<b.f\/a.f=b.f/\(a.i<b.i\/a.i=b.i/\(a.o<b.o\/a.o=b.o/\(a.t<b.t\/a.t=b.t/\(0:Int)<0))):=by
 unfold iW
 rw[tN,tN,tN,tN,Fz]
theorem oV {a b:Arc}:iW a b=0 <-> a.f=b.f/\a.i=b.i/\a.o=b.o/\a.t=b.t:=by
 unfold iW
 rw[tM,tM,tM,tM,Fz]
 simp
theorem xS {a b:Arc}:ltW a b=true <-> a.f<b.f\/a.f=b.f/\(a.i<b.i\/a.i=b.i/\(a.o<b.o\/a.o=b.o/\(a.t<b.t\/a.t=b.t/\a.w<b.w))):=by
 unfold ltW Kw
 rw[decide_eq_true_eq]
 by_cases h:iW a b=0
 ·rw[h,kM,tN,Fz]
  have:=oV.1 h
  omega
 ·rw[gT h]
  have h1:=Nd (a:=a) (b:=b)
  have h2:=mt oV.2 h
  omega
theorem kN:wN ltW:=by
 constructor
 ·intro x y h
  rw[xS]at h
  rw[<-Bool.not_eq_true,xS]
  omega
 ·intro x y z h1 h2
  rw[<-Bool.not_eq_true,xS]at h1 h2⊢
  omega
theorem aS.less {α:Type} {d:α} {lt:α->α->Bool} {a b c:Nat} {xs:List α} (h:aS d lt a b xs) (hc:c<=b):aS d lt a c xs:=fun i j h1 h2 h3=>h i j h1 h2 (by omega)
section
variable {α:Type} {d:α} {lt:α->α->Bool}
structure Cb (d:α) (lt:α->α->Bool) (a b i j:Nat) (xs:List α):Prop where
 l:a+1<=i
 ij:i<=j
 h:j<=b
 lo: ∀k,a+1<=k->k<i->lt (xs.getD k d) (xs.getD a d)=true
 hi: ∀k,j<=k->k<b->lt (xs.getD k d) (xs.getD a d)=false
theorem Cb.start {a b:Nat} {xs:List α} (h:a+1<=b):Cb d lt a b (a+1) b xs:=⟨Nat.le_refl _,h,Nat.le_refl _,fun k h1 h2=>by omega,fun k h1 h2=>by omega⟩
theorem Cb.up (hlt:wN lt) {a b i j:Nat} {xs:List α} (hs:aS d lt (a+1) b xs) (h:Cb d lt a b i j xs) (hij:i<j) (hc:lt (xs.getD ((i+j) / 2) d) (xs.getD a d)=true):Cb d lt a b ((i+j) / 2+1) j xs:=by
 have h1:=h.l
 have h2:=h.h
 refine⟨by omega,by omega,h2,fun k g1 g2=>?_,h.hi⟩
 cases e:lt (xs.getD k d) (xs.getD a d)with
 |true=>rfl
 |false=>
  have:=hlt.trans _ _ _ e (hs.le hlt (i:=k) (j:=(i+j) / 2) g1 (by omega) (by omega))
  rw[hc]at this;cases this
theorem Cb.down (hlt:wN lt) {a b i j:Nat} {xs:List α} (hs:aS d lt (a+1) b xs) (h:Cb d lt a b i j xs) (hij:i<j) (hc:lt (xs.getD ((i+j) / 2) d) (xs.getD a d)=false):Cb d lt a b i ((i+j) / 2) xs:=by
 have h1:=h.l
 have h2:=h.h
 exact⟨h1,by omega,by omega,h.lo,fun k g1 g2=>hlt.trans _ _ _ hc (hs.le hlt (i:=(i+j) / 2) (j:=k) (by omega) g1 g2)⟩
structure Ca (d:α) (lt:α->α->Bool) (a m i j:Nat) (xs:List α):Prop where
 l:a<=i
 ij:i<=j
 h:j<=m
 lo: ∀k,a<=k->k<i->lt (xs.getD m d) (xs.getD k d)=false
 hi: ∀k,j<=k->k<m->lt (xs.getD m d) (xs.getD k d)=true
theorem Ca.start {a m:Nat} {xs:List α} (h:a<=m):Ca d lt a m a m xs:=⟨Nat.le_refl _,h,Nat.le_refl _,fun k h1 h2=>by omega,fun k h1 h2=>by omega⟩
theorem Ca.up (hlt:wN lt) {a m i j:Nat} {xs:List α} (hs:aS d lt a m xs) (h:Ca d lt a m i j xs) (hij:i<j) (hc:lt (xs.getD m d) (xs.getD ((i+j) / 2) d)=false):Ca d lt a m ((i+j) / 2+1) j xs:=by
 have h1:=h.l
 have h2:=h.h
 exact⟨by omega,by omega,h2,fun k g1 g2=>hlt.trans _ _ _ (hs.le hlt (i:=k) (j:=(i+j) / 2) g1 (by omega) (by omega)) hc,h.hi⟩
theorem Ca.down (hlt:wN lt) {a m i j:Nat} {xs:List α} (hs:aS d lt a m xs) (h:Ca d lt a m i j xs) (hij:i<j) (hc:lt (xs.getD m d) (xs.getD ((i+j) / 2) d)=true):Ca d lt a m i ((i+j) / 2) xs:=by
 have h1:=h.l
 have h2:=h.h
 refine⟨h1,by omega,by omega,h.lo,fun k g1 g2=>?_⟩
 cases e:lt (xs.getD m d) (xs.getD k d)with
 |true=>rfl
 |false=>
  have:=hlt.trans _ _ _ (hs.le hlt (i:=(i+j) / 2) (j:=k) (by omega) g1 g2) e
  rw[hc]at this;cases this
theorem wO.low {bs n a:Nat} {ys:List α} (h:wO d lt bs n a ys) (hab:n<=a+bs):aS d lt a n ys:=by
 obtain⟨t,rfl,h2,h3⟩:=h
 have e1:2*t*bs=t*(2*bs):=by rw[Nat.mul_comm 2 t,Nat.mul_assoc]
 have e2:(2*t+1)*bs=t*(2*bs)+bs:=by rw[Nat.succ_mul,e1]
 have k1:=h3 (2*t) (Nat.le_refl _)
 rw[e2,e1,Nat.min_eq_right hab]at k1
 exact k1
theorem Lt.up {lo hi p s r:Nat} {xs:List α} (h:Lt d lt lo hi p s r xs) (hsr:s<r) (hc:lt (xs.getD (p-(s+r) / 2) d) (xs.getD ((s+r) / 2) d)=false):Lt d lt lo hi p ((s+r) / 2+1) r xs:=by
 have h1:=h.l
 have h2:=h.h
 exact⟨by omega,by omega,h2,.inr (by rw[Nat.add_sub_cancel];exact hc),h.rt⟩
theorem Lt.down {lo hi p s r:Nat} {xs:List α} (h:Lt d lt lo hi p s r xs) (hsr:s<r) (hc:lt (xs.getD (p-(s+r) / 2) d) (xs.getD ((s+r) / 2) d)=true):Lt d lt lo hi p s ((s+r) / 2) xs:=by
 have h1:=h.l
 have h2:=h.h
 exact⟨h1,by omega,by omega,h.lf,.inr hc⟩
end
abbrev aD:Arc:=⟨0,0,0,0,0⟩
def pM:Arc->List Arc->List Arc
 |_,[]=> []
 |p,x::l=>if jE x p then pM x l else x::pM x l
def comp:List Arc->List Arc
 | []=> []
 |x::l=>x::pM x l
theorem Au: ∀(l:List Arc) (p x:Arc),pM p (l++[x])=pM p l++(if jE x ((p::l).getLast (by simp))then []else [x])
 | [],p,x=>rfl
 |y::l,p,x=>by
  have ih:=Au l y x
  simp only[List.cons_append,pM]
  have e:(p::y::l).getLast (by simp)=(y::l).getLast (by simp):=by simp
  rw[e]
  split
  ·exact ih
  ·rw[ih];rfl
theorem Vi (l:List Arc) (x:Arc) (h:l≠ []):comp (l++[x])=comp l++(if jE x (l.getLast h)then []else [x]):=by
 cases l with
 |nil=>exact absurd rfl h
 |cons y l=>simp only[List.cons_append,comp];rw[Au]
theorem qM (l:List Arc) (k:Nat) (h1:1<=k) (h2:k<l.length):comp (l.take (k+1))=comp (l.take k)++(if jE (l.getD k aD) (l.getD (k-1) aD)then []else [l.getD k aD]):=by
 have hne:l.take k≠ []:=by
  intro c
  have:=congrArg List.length c
  rw[List.length_take,List.length_nil]at this
  omega
 rw[aY l k aD h2,Vi _ _ hne]
 have e:(l.take k).getLast hne=l.getD (k-1) aD:=by
  have hlt:k-1<(l.take k).length:=by rw[List.length_take];omega
  rw[List.getLast_eq_getElem]
  have e2:(l.take k).length-1=k-1:=by rw[List.length_take];omega
  simp only[e2,List.getElem_take]
  simp[List.getD,show k-1<l.length by omega]
 rw[e]
theorem At (l:List Arc) (h:l.length<2):comp l=l:=by
 cases l with
 |nil=>rfl
 |cons x l=>
  cases l with
  |nil=>rfl
  |cons y l=>simp only[List.length_cons]at h;omega
theorem aAm (l:List Arc):comp (l.take 1)=l.take 1:=At _ (by rw[List.length_take];omega)
structure jC (xs:List Arc) (k n:Nat) (ys:List Arc):Prop where
 len:ys.length=xs.length
 kn:k+1<=n
 nl:n<=xs.length
 k1:1<=k
 tk:ys.take k=comp (xs.take n)
 un: ∀i,n-1<=i->ys.getD i aD=xs.getD i aD
theorem jC.start {xs:List Arc} {k:Nat} (h1:1<=k) (h2:k<xs.length) (hc:comp (xs.take k)=xs.take k) (hs:jE (xs.getD k aD) (xs.getD (k-1) aD)=true):jC xs k (k+1) xs:=
 ⟨rfl,Nat.le_refl _,h2,h1,by rw[qM xs k h1 h2,hs,if_pos rfl,List.append_nil,hc],fun _ _=>rfl⟩
theorem jC.skip {xs ys:List Arc} {k n:Nat} (h:jC xs k n ys) (hn:n<xs.length) (hs:jE (xs.getD n aD) (xs.getD (n-1) aD)=true):jC xs k (n+1) ys:=by
 have:=h.kn
 have:=h.k1
 exact⟨h.len,by omega,hn,h.k1,by rw[qM xs n (by omega) hn,hs,if_pos rfl,List.append_nil,h.tk],fun i hi=>h.un i (by omega)⟩
theorem jC.put {xs ys:List Arc} {k n:Nat} (h:jC xs k n ys) (hn:n<xs.length) (hs:jE (xs.getD n aD) (xs.getD (n-1) aD)=false):jC xs (k+1) (n+1) (ys.set k (xs.getD n aD)):=by
 have h1:=h.kn
 have h2:=h.k1
 have h3:=h.len
 refine⟨by simp[h3],by omega,hn,by omega,?_,fun i hi=>?_⟩
 ·rw[qM xs n (by omega) hn,hs,if_neg (by simp),<-h.tk]
  rw[aY _ k aD (by simp;omega),List.take_set_of_le (Nat.le_refl _)]
  congr 1
  simp[List.getD,show k<ys.length by omega]
 ·rw[vV,if_neg (by omega)]
  exact h.un i (by omega)
theorem jC.done {xs ys:List Arc} {k:Nat} (h:jC xs k xs.length ys):(comp xs).length=k/\ys=comp xs++ys.drop k:=by
 have h1:=h.kn
 have h3:=h.len
 have e:=h.tk
 rw[List.take_length]at e
 rw[<-e,List.length_take]
 exact⟨by omega,(List.take_append_drop k ys).symm⟩
def Key (a b:Arc):Prop:=a.f=b.f/\a.i=b.i/\a.o=b.o/\a.t=b.t
theorem kX {a b:Arc}:bF a b=true <-> a.f<b.f\/a.f=b.f/\(a.i<b.i\/a.i=b.i/\(a.o<b.o\/a.o=b.o/\a.t<b.t)):=by
 unfold bF
 by_cases h1:a.f=b.f
 ·by_cases h2:a.i=b.i
  ·by_cases h3:a.o=b.o
   ·by_cases h4:a.t=b.t
    ·simp[h1,h2,h3,h4]
    ·simp[h1,h2,h3,h4]
   ·simp[h1,h2,h3]
  ·simp[h1,h2]
 ·simp[h1]
theorem Key.not_ahead {a b:Arc} (h:Key a b):bF a b=false:=by
 rw[<-Bool.not_eq_true,kX]
 unfold Key at h
 omega
theorem Cv {a b:Arc}:jE a b=true <-> Key a b:=by
 unfold jE Key
 rw[decide_eq_true_eq,oV]
theorem Key.symm {a b:Arc} (h:Key a b):Key b a:=⟨h.1.symm,h.2.1.symm,h.2.2.1.symm,h.2.2.2.symm⟩
theorem Key.trans {a b c:Arc} (h:Key a b) (h':Key b c):Key a c:=⟨h.1.trans h'.1,h.2.1.trans h'.2.1,h.2.2.1.trans h'.2.2.1,h.2.2.2.trans h'.2.2.2⟩
theorem Key.refl (a:Arc):Key a a:=⟨rfl,rfl,rfl,rfl⟩
theorem Key.eq {a b:Arc} (h:Key a b) (hw:a.w=b.w):a=b:=by
 obtain⟨a1,a2,a3,a4,a5⟩:=a
 obtain⟨b1,b2,b3,b4,b5⟩:=b
 obtain⟨h1,h2,h3,h4⟩:=h
 simp only at*
 subst h1 h2 h3 h4 hw
 rfl
theorem Key.ahead_l {a b c:Arc} (h:Key a b) (h':bF b c=true):bF a c=true:=by
 rw[kX]at h'⊢
 unfold Key at h
 omega
structure bG (xs zs:List Arc):Prop where
 srt:Srt zs
 sub: ∀z∈zs,z∈xs
 cov: ∀x∈xs,∃z∈zs,Key z x/\z.w<=x.w
theorem Srt.key {l:List Arc} (h:Srt l) {a b:Arc} (ha:a∈l) (hb:b∈l) (hk:Key a b):a=b:=by
 induction l with
 |nil=>cases ha
 |cons x l ih=>
  unfold Srt at h
  rw[List.pairwise_cons]at h
  rw[List.mem_cons]at ha hb
  rcases ha with ha|ha
  ·rcases hb with hb|hb
   ·rw[ha,hb]
   ·have:=h.1 b hb;rw[<-ha,hk.not_ahead]at this;cases this
  ·rcases hb with hb|hb
   ·have:=h.1 a ha;rw[<-hb,hk.symm.not_ahead]at this;cases this
   ·exact ih h.2 ha hb
theorem Srt.ext {l m:List Arc} (hl:Srt l) (hm:Srt m) (h: ∀a,a∈l <-> a∈m):l=m:=by
 induction l generalizing m with
 |nil=>
  cases m with
  |nil=>rfl
  |cons y m=>have:=(h y).2 (by simp);cases this
 |cons x l ih=>
  cases m with
  |nil=>have:=(h x).1 (by simp);cases this
  |cons y m=>
   unfold Srt at hl hm
   rw[List.pairwise_cons]at hl hm
   have e:x=y:=by
    rcases List.mem_cons.1 ((h x).1 (by simp))with e|hx
    ·exact e
    ·rcases List.mem_cons.1 ((h y).2 (by simp))with e|hy
     ·exact e.symm
     ·have h1:=hl.1 y hy
      have h2:=hm.1 x hx
      rw[Ho h1]at h2
      cases h2
   subst e
   rw[ih hl.2 hm.2]
   intro a
   constructor
   ·intro ha
    rcases List.mem_cons.1 ((h a).1 (List.mem_cons_of_mem _ ha))with rfl|h'
    ·have:=hl.1 a ha;rw[nG]at this;cases this
    ·exact h'
   ·intro ha
    rcases List.mem_cons.1 ((h a).2 (List.mem_cons_of_mem _ ha))with rfl|h'
    ·have:=hm.1 a ha;rw[nG]at this;cases this
    ·exact h'
theorem bG.uniq {xs zs zs':List Arc} (h:bG xs zs) (h':bG xs zs'):zs=zs':=by
 have key: ∀ {zs zs':List Arc},bG xs zs->bG xs zs'-> ∀z∈zs,z∈zs':=by
  intro zs zs' h h' z hz
  obtain⟨y,hy,hk,hw⟩:=h'.cov z (h.sub z hz)
  obtain⟨u,hu,hk2,hw2⟩:=h.cov y (h'.sub y hy)
  have e:=h.srt.key hu hz (hk2.trans hk)
  subst e
  have:y=u:=hk.eq (by omega)
  subst this
  exact hy
 exact h.srt.ext h'.srt fun a=>⟨key h h' a,key h' h a⟩
theorem Av: ∀(l:List Arc) (p:Arc),(p::l).Pairwise (fun a b=>ltW b a=false)->
  (∀z∈pM p l,bF p z=true)/\Srt (pM p l)/\(∀z∈pM p l,z∈l)/\ ∀x∈l,(Key p x/\p.w<=x.w)\/ ∃z∈pM p l,Key z x/\z.w<=x.w
 | [],p,_=>⟨fun z h=>(by cases h),.nil,fun z h=>(by cases h),fun x h=>(by cases h)⟩
 |x::l,p,h=>by
  have h2:=(List.pairwise_cons.1 h)
  obtain⟨i1,i2,i3,i4⟩:=Av l x h2.2
  have hpx:=h2.1 x (by simp)
  rw[<-Bool.not_eq_true,xS]at hpx
  simp only[pM]
  by_cases hk:jE x p=true
  ·rw[if_pos hk]
   have hk':=Cv.1 hk
   have hw:p.w<=x.w:=by obtain⟨e1,e2,e3,e4⟩:=hk';omega
   refine⟨fun z hz=>hk'.symm.ahead_l (i1 z hz),i2,fun z hz=>List.mem_cons_of_mem _ (i3 z hz),fun y hy=>?_⟩
   rcases List.mem_cons.1 hy with rfl|hy
   ·exact .inl ⟨hk'.symm,hw⟩
   ·rcases i4 y hy with⟨g1,g2⟩|g
    ·exact .inl ⟨hk'.symm.trans g1,by omega⟩
    ·exact .inr g
  ·rw[if_neg hk]
   have hne: ¬Key x p:=fun c=>hk (Cv.2 c)
   have ha:bF p x=true:=by
    rw[kX]
    unfold Key at hne
    omega
   refine⟨fun z hz=>?_,?_,fun z hz=>?_,fun y hy=>?_⟩
   ·rcases List.mem_cons.1 hz with rfl|hz
    ·exact ha
    ·exact nF ha (i1 z hz)
   ·exact List.pairwise_cons.2 ⟨i1,i2⟩
   ·rcases List.mem_cons.1 hz with rfl|hz
    ·simp
    ·exact List.mem_cons_of_mem _ (i3 z hz)
   ·right
    rcases List.mem_cons.1 hy with rfl|hy
    ·exact⟨y,by simp,Key.refl y,Int.le_refl _⟩
    ·rcases i4 y hy with⟨g1,g2⟩|⟨z,g1,g2,g3⟩
     ·exact⟨x,by simp,g1,g2⟩
     ·exact⟨z,List.mem_cons_of_mem _ g1,g2,g3⟩
theorem Vj {ys:List Arc} (h:ys.Pairwise (fun a b=>ltW b a=false)):bG ys (comp ys):=by
 cases ys with
 |nil=>exact⟨.nil,fun z h=>(by cases h),fun x h=>(by cases h)⟩
 |cons p l=>
  obtain⟨i1,i2,i3,i4⟩:=Av l p h
  refine⟨List.pairwise_cons.2 ⟨i1,i2⟩,fun z hz=>?_,fun x hx=>?_⟩
  ·rcases List.mem_cons.1 hz with rfl|hz
   ·simp
   ·exact List.mem_cons_of_mem _ (i3 z hz)
  ·rcases List.mem_cons.1 hx with rfl|hx
   ·exact⟨x,by simp[comp],Key.refl x,Int.le_refl _⟩
   ·rcases i4 x hx with⟨g1,g2⟩|⟨z,g1,g2,g3⟩
    ·exact⟨p,by simp[comp],g1,g2⟩
    ·exact⟨z,List.mem_cons_of_mem _ g1,g2,g3⟩
def wL (xs zs:List Arc):Prop:= ∃ys:List Arc,ys.Perm xs/\aS aD ltW 0 xs.length ys/\zs=comp ys
theorem wL.norm {xs zs:List Arc} (h:wL xs zs):bG xs zs:=by
 obtain⟨ys,hp,hs,rfl⟩:=h
 have hl:=hp.length_eq
 have:=Vj (ys:=ys) (by
  rw[List.pairwise_iff_getElem]
  intro i j hi hj hij
  have:=hs i j (Nat.zero_le _) hij (by omega)
  simpa[List.getD,hi,hj]using this)
 exact⟨this.srt,fun z hz=>hp.mem_iff.1 (this.sub z hz),fun x hx=>this.cov x (hp.mem_iff.2 hx)⟩
theorem bG.nil:bG [] []:=⟨.nil,fun z h=>(by cases h),fun x h=>(by cases h)⟩
theorem Srt.at {l:List Arc} (h:Srt l) {i j:Nat} (hij:i<j) (hj:j<l.length):bF (l.getD i aD) (l.getD j aD)=true:=by
 have:=(List.pairwise_iff_getElem.1 h) i j (by omega) hj hij
 simpa[List.getD,hj,show i<l.length by omega]using this
def rX (a:Arc):Arc:=⟨a.f,a.o,a.i,a.t,a.w⟩
def nT (side:Int) (a:Arc):Arc:=if side=1 then⟨a.f,a.i,a.i,a.t,a.w⟩else⟨a.f,a.o,a.o,a.t,a.w⟩
def Wl (side:Int) (a:Arc):Arc:=if side=0 then rX a else if side=1 then⟨a.f,a.i,a.i,a.t,a.w⟩else if side=2 then⟨a.f,a.o,a.o,a.t,a.w⟩else a
theorem St {side:Int} (h:side=1\/side=2):Wl side=nT side:=by
 funext a
 unfold Wl nT
 rcases h with rfl|rfl<;>rfl
theorem Srt.nodup {l:List Arc} (h:Srt l):l.Nodup:=by
 unfold Srt at h
 exact h.imp fun {a b} hab e=>by rw[e,nG]at hab;cases hab
theorem Di {α:Type} [DecidableEq α]: ∀(l m:List α),l.Nodup->(∀a∈l,a∈m)->l.length<=m.length
 | [],m,_,_=>Nat.zero_le _
 |a::l,m,hn,h=>by
  rw[List.nodup_cons]at hn
  have ha:=h a (by simp)
  have:=Di l (m.erase a) hn.2 (fun b hb=>(List.mem_erase_of_ne (by rintro rfl;exact hn.1 hb)).2 (h b (List.mem_cons_of_mem _ hb)))
  rw[List.length_erase_of_mem ha]at this
  have:0<m.length:=List.length_pos_of_mem ha
  simp only[List.length_cons]
  omega
theorem bG.len {xs zs:List Arc} (h:bG xs zs):zs.length<=xs.length:=Di zs xs h.srt.nodup h.sub
end Go.Fw
