/-
  The reference's numbers are the program's.
-/
import Derived.Test.YtemhgpoeccbheaaGreatDoorQ07
import Derived.Test.YtemhgpoeccbheaaGreatDoorQ19
import Derived.Lib.AtoiAllCases
import Derived.Test.YtemhgpoeccbheaaGreatDoorQ08
import Derived.Test.YtemhgpoeccbheaaGreatDoorQ15
import Derived.Test.YtemhgpoeccbheaaGreatDoorQ18
set_option linter.unusedSimpArgs false
set_option linter.unusedVariables false
set_option maxRecDepth 100000
set_option maxHeartbeats 16000000
namespace Go.Fw
open Go
def Dig (c:UInt8):Prop:=48<=c.toNat/\c.toNat<=57
def dv:Nat->List UInt8->Nat
 |acc,[]=>acc
 |acc,c::r=>dv (acc*10+(c.toNat-48)) r
theorem Rs (d:UInt8): ∀(l:List UInt8) (acc:Nat),dv acc (l++[d])=dv acc l*10+(d.toNat-48)
 | [],_=>rfl
 |c::l,acc=>by
  rw[List.cons_append]
  exact Rs d l _
theorem aCo: ∀(l:List UInt8) (acc:Nat),acc<=dv acc l
 | [],_=>Nat.le_refl _
 |c::l,acc=>by
  have:=aCo l (acc*10+(c.toNat-48))
  show acc<=dv (acc*10+(c.toNat-48)) l
  exact Nat.le_trans (by omega) this
theorem aCn: ∀(l:List UInt8) (acc:Nat),(∀c∈l,Dig c)->dv acc l<(acc+1)*10^l.length
 | [],acc,_=>by show acc<(acc+1)*10^0;omega
 |c::l,acc,h=>by
  have h1:=aCn l (acc*10+(c.toNat-48)) (fun x hx=>h x (by simp[hx]))
  have h2:=h c (by simp)
  unfold Dig at h2
  show dv (acc*10+(c.toNat-48)) l<_
  refine Nat.lt_of_lt_of_le h1 ?_
  rw[List.length_cons,Nat.pow_succ,Nat.mul_comm (10^l.length) 10,<-Nat.mul_assoc]
  exact Nat.mul_le_mul_right _ (by omega)
theorem Iy: ∀(l:List UInt8) (acc:Nat),(∀c∈l,Dig c)->dv acc l<1000000000000000000->Lib.parseUint10 acc l= .ok (dv acc l)
 | [],_,_,_=>rfl
 |c::l,acc,h,hlt=>by
  have h2:=h c (by simp)
  unfold Dig at h2
  have hlt':dv (acc*10+(c.toNat-48)) l<1000000000000000000:=hlt
  have hge:=aCo l (acc*10+(c.toNat-48))
  simp only[Lib.parseUint10]
  rw[if_pos h2,if_neg (by omega),if_neg (by omega)]
  exact Iy l _ (fun x hx=>h x (by simp[hx])) hlt'
theorem xY: ∀(k u:Nat),u<k->(∀c∈Lib.decDigits u,Dig c)/\dv 0 (Lib.decDigits u)=u/\1<=(Lib.decDigits u).length
 |0,u,h=>by omega
 |k+1,u,h=>by
  have hd: ∀i:Nat,i<10->(UInt8.ofNat (48+i)).toNat=48+i:=fun i hi=>by rw[UInt8.toNat_ofNat'];omega
  by_cases h10:u<10
  ·rw[Lib.decDigits_one h10]
   refine⟨?_,?_,by simp⟩
   ·intro c hc
    simp only[List.mem_cons,List.not_mem_nil,or_false]at hc
    subst hc
    unfold Dig
    rw[hd u h10]
    omega
   ·show 0*10+((UInt8.ofNat (48+u)).toNat-48)=u
    rw[hd u h10]
    omega
  ·obtain⟨h1,h2,h3⟩:=xY k (u / 10) (by omega)
   rw[Lib.decDigits,dif_neg h10]
   refine⟨?_,?_,by simp⟩
   ·intro c hc
    rcases List.mem_append.1 hc with hc|hc
    ·exact h1 c hc
    ·simp only[List.mem_cons,List.not_mem_nil,or_false]at hc
     subst hc
     unfold Dig
     rw[hd _ (by omega)]
     omega
   ·rw[Rs,h2,hd _ (by omega)]
    omega
instance (x:List UInt8):Decidable (∀c∈x,Dig c):=by unfold Dig;infer_instance
def aCv (x:List UInt8):Option Int:=if 1<=x.length/\x.length<=10/\(∀c∈x,Dig c)/\Lib.itoa (dv 0 x:Nat)=x then some (dv 0 x:Nat)else none
theorem aAN (x:List UInt8):aCv x=lA x:=by
 unfold aCv
 split
 ·rename_i h
  obtain⟨h1,h2,h3,h4⟩:=h
  have hlt:=aCn x 0 h3
  have hp:10^x.length<=10^10:=Nat.pow_le_pow_right (by omega) h2
  have hok:Lib.atoiAll x= .ok (dv 0 x:Nat):=by
   have hpm:Lib.parseMag x= .ok (dv 0 x):=by
    unfold Lib.parseMag
    rw[if_neg (fun e=>by rw[e]at h1;simp at h1)]
    exact Iy x 0 h3 (by omega)
   cases x with
   |nil=>simp at h1
   |cons c r=>
    have hc:=h3 c (by simp)
    unfold Dig at hc
    unfold Lib.atoiAll
    simp only
    rw[if_neg (by omega),hpm]
    simp only
    rw[if_neg (by omega),if_neg (by omega),if_neg (by omega)]
  unfold lA
  rw[hok]
  simp only
  rw[if_pos ⟨h2,by omega,h4⟩]
 ·rename_i h
  unfold lA
  split
  ·rename_i n hn
   split
   ·rename_i hc
    obtain⟨c1,c2,c3⟩:=hc
    exfalso
    apply h
    obtain⟨m,rfl⟩: ∃m:Nat,n=m:=⟨n.toNat,by omega⟩
    rw[Lib.itoa_nonneg]at c3
    obtain⟨d1,d2,d3⟩:=xY (m+1) m (by omega)
    rw[c3]at d1 d2 d3
    exact⟨d3,c1,d1,by rw[d2,Lib.itoa_nonneg];exact c3⟩
   ·rfl
  ·rfl
def jn (c:UInt8):List (List UInt8)->List UInt8
 | []=> []
 | [x]=>x
 |x::y::r=>x++c::jn c (y::r)
theorem tZ (c:UInt8) (x:List UInt8) {l:List (List UInt8)} (h:l≠ []):jn c (x::l)=x++c::jn c l:=by
 cases l with
 |nil=>exact absurd rfl h
 |cons y r=>rfl
theorem Rg (c:UInt8) (x:List UInt8): ∀l:List (List UInt8),l≠ []->jn c (l++[x])=jn c l++[c]++x
 | [],h=>absurd rfl h
 | [y],_=>by simp[jn]
 |y::z::r,_=>by
  rw[List.cons_append,tZ c y (by simp),Rg c x (z::r) (by simp),tZ c y (by simp)]
  simp
theorem Fc (c:UInt8): ∀l:List (List UInt8),l≠ []->(∀x∈l,∀y∈x,y≠c)->spl c (jn c l)=l
 | [],h,_=>absurd rfl h
 | [x],_,h=>Pv c x (h x (by simp))
 |x::y::r,_,h=>by
  rw[tZ c x (by simp),Pu c x _ (h x (by simp)),Fc c (y::r) (by simp) (fun z hz=>h z (by simp[hz]))]
def uls (l:List (List UInt8)):List UInt8:=l.flatMap (· ++[10])
theorem Fb (a b:List (List UInt8)):uls (a++b)=uls a++uls b:=by unfold uls;rw[List.flatMap_append]
theorem aAO (a:List UInt8):uls [a]=a++[10]:=by simp[uls]
theorem Zr: ∀l:List (List UInt8),jn 10 (l++[[]])=uls l
 | []=>rfl
 |x::l=>by
  rw[List.cons_append,tZ 10 x (by simp),Zr l]
  simp[uls]
theorem aAT (l:List (List UInt8)) (h: ∀x∈l,∀y∈x,y≠10):spl 10 (uls l)=l++[[]]:=by
 rw[<-Zr]
 refine Fc 10 _ (by simp) (fun x hx=>?_)
 rcases List.mem_append.1 hx with hx|hx
 ·exact h x hx
 ·simp only[List.mem_cons,List.not_mem_nil,or_false]at hx
  subst hx
  simp
def lw (word:List UInt8) (ns:List Int):List (List UInt8):=(if word=[]then []else [word])++ns.map Lib.itoa
theorem Ze (word:List UInt8) (ns:List Int): ∀k:Nat,k<=ns.length->lnK word ns k=jn 32 (lw word (ns.take k))
 |0,_=>by
  unfold lw lnK
  split
  ·rename_i h;rw[h];rfl
  ·rfl
 |k+1,hk=>by
  have ih:=Ze word ns k (by omega)
  have e:lw word (ns.take (k+1))=lw word (ns.take k)++[Lib.itoa (ns.getD k 0)]:=by
   unfold lw
   rw[List.take_add_one,List.map_append,<-List.append_assoc]
   congr 1
   rw[List.getElem?_eq_getElem (by omega),List.getD_eq_getElem?_getD,List.getElem?_eq_getElem (by omega)]
   rfl
  rw[e]
  show lnK word ns k++vW word k++_=_
  rw[ih]
  unfold vW
  split
  ·rename_i h
   rw[Rg]
   unfold lw
   intro hc
   obtain⟨h1,h2⟩:=List.append_eq_nil_iff.1 hc
   rcases h with h|h
   ·have:=congrArg List.length h2
    simp only[List.length_map,List.length_take,List.length_nil]at this
    omega
   ·rw[if_neg h]at h1;cases h1
  ·rename_i h
   have hk0:k=0:=by omega
   have hw:word=[]:=Classical.byContradiction fun c=>h (.inr c)
   subst hk0 hw
   simp[lw,jn]
theorem Zf (word:List UInt8) (ns:List Int):lnF word ns=jn 32 (lw word ns)++[10]:=by
 unfold lnF
 rw[Ze word ns _ (Nat.le_refl _),List.take_length]
theorem Jt {n:Int} (h:0<=n): ∀c∈Lib.itoa n,Dig c:=by
 obtain⟨m,rfl⟩: ∃m:Nat,n=m:=⟨n.toNat,by omega⟩
 rw[Lib.itoa_nonneg]
 exact(xY (m+1) m (by omega)).1
theorem zV {n:Int} (h:0<=n) (c:UInt8) (hc:c.toNat<48): ∀y∈Lib.itoa n,y≠c:=by
 intro y hy e
 have:=Jt h y hy
 unfold Dig at this
 rw[e]at this
 omega
theorem Ru: ∀(k u:Nat),u<10^ (k+1)->(Lib.decDigits u).length<=k+1
 |0,u,h=>by rw[Lib.decDigits_one (by omega)];simp
 |k+1,u,h=>by
  by_cases h10:u<10
  ·rw[Lib.decDigits_one h10];simp
  ·have:=Ru k (u / 10) (by rw[Nat.pow_succ]at h;omega)
   rw[Lib.decDigits,dif_neg h10,List.length_append]
   simp only[List.length_cons,List.length_nil]
   omega
theorem Ud {n:Int} (h0:0<=n) (h1:n<10000000000):lA (Lib.itoa n)=some n:=by
 rw[<-aAN]
 obtain⟨m,rfl⟩: ∃m:Nat,n=m:=⟨n.toNat,by omega⟩
 obtain⟨d1,d2,d3⟩:=xY (m+1) m (by omega)
 have d4:=Ru 9 m (by omega)
 unfold aCv
 rw[Lib.itoa_nonneg,if_pos ⟨d3,by omega,d1,by rw[d2,Lib.itoa_nonneg]⟩,d2]
theorem mT: ∀ {ns:List Int},(∀n∈ns,0<=n/\n<10000000000)->dG (ns.map Lib.itoa)=some ns
 | [],_=>rfl
 |n::ns,h=>by
  have h1:=h n (by simp)
  rw[List.map_cons,fI,Ud h1.1 h1.2,mT (fun m hm=>h m (by simp[hm]))]
def sD:Nat->List Int->List (List UInt8)
 |_,[]=> []
 |k,w::ws=>(if w≠ -1 then [jn 32 (lw cE [(k:Int),w])]else [])++sD (k+1) ws
def Ev (a:Arc):List UInt8:=jn 32 (lw [] (jP a))
def Gq (st sa:Int):List UInt8:=jn 32 [sR,Lib.itoa st,yD,Lib.itoa sa]
theorem Ee (w:Int): ∀(k:Nat) (l:List Int),sD k (l++[w])=sD k l++(if w≠ -1 then [jn 32 (lw cE [((k+l.length:Nat):Int),w])]else [])
 |k,[]=>by simp[sD]
 |k,x::l=>by
  rw[List.cons_append]
  unfold sD
  rw[Ee w (k+1) l,List.append_assoc,List.length_cons,show k+1+l.length=k+(l.length+1) by omega]
theorem Ea (fin:List Int): ∀k:Nat,k<=fin.length->kR fin k=uls (sD 0 (fin.take k))
 |0,_=>by simp[kR,sD,uls]
 |k+1,hk=>by
  have ih:=Ea fin k (by omega)
  have e:fin.take (k+1)=fin.take k++[fin.getD k 0]:=by
   rw[List.take_add_one,List.getElem?_eq_getElem (by omega),List.getD_eq_getElem?_getD,List.getElem?_eq_getElem (by omega)]
   rfl
  rw[e,Ee,Fb,<-ih]
  show kR fin k++(if fin.getD k 0≠ -1 then lnF cE [(k:Int),fin.getD k 0]else [])=_
  rw[List.length_take,show min k fin.length=k by omega,Nat.zero_add]
  split
  ·rw[aAO,Zf]
  ·rfl
theorem Er (arcs:List Arc): ∀k:Nat,k<=arcs.length->iP arcs k=uls ((arcs.take k).map Ev)
 |0,_=>by simp[iP,uls]
 |k+1,hk=>by
  have ih:=Er arcs k (by omega)
  have e:arcs.take (k+1)=arcs.take k++[arcs.getD k aD]:=by
   rw[List.take_add_one,List.getElem?_eq_getElem (by omega),List.getD_eq_getElem?_getD,List.getElem?_eq_getElem (by omega)]
   rfl
  rw[e,List.map_append,Fb,<-ih]
  show iP arcs k++lnF [] (jP (arcs.getD k aD))=_
  rw[Zf]
  simp[uls,Ev]
def prL (st sa:Int) (fin:List Int) (arcs:List Arc):List (List UInt8):=Gq st sa::(sD 0 fin++arcs.map Ev)
theorem aBh (F:TF):prF F=uls (prL F.st F.start F.fin F.arcs):=by
 unfold prF prL
 rw[Ea _ _ (Nat.le_refl _),Er _ _ (Nat.le_refl _),List.take_length,List.take_length]
 have: ∀(a:List UInt8) (l:List (List UInt8)),uls (a::l)=a++[10]++uls l:=fun a l=>by simp[uls]
 rw[this,Fb,<-List.append_assoc]
 congr 2
 simp[hdL,Gq,jn,mN,uV,sR,yD]
theorem Rh {c:UInt8}: ∀ {l:List (List UInt8)} {d:UInt8},d≠c->(∀x∈l,∀y∈x,y≠d)-> ∀y∈jn c l,y≠d
 | [],_,_,_=>by simp[jn]
 | [x],_,_,h=>h x (by simp)
 |x::z::r,d,hd,h=>by
  intro y hy
  rw[tZ c x (by simp)]at hy
  rcases List.mem_append.1 hy with hy|hy
  ·exact h x (by simp) y hy
  ·rcases List.mem_cons.1 hy with rfl|hy
   ·exact fun e=>hd e.symm
   ·exact Rh (l:=z::r) hd (fun w hw=>h w (by simp[hw])) y hy
theorem Zd {word:List UInt8} {ns:List Int} {d:UInt8} (hd:d.toNat<48) (hw: ∀y∈word,y≠d) (hn: ∀n∈ns,0<=n): ∀x∈lw word ns,∀y∈x,y≠d:=by
 intro x hx
 unfold lw at hx
 rcases List.mem_append.1 hx with hx|hx
 ·split at hx
  ·simp at hx
  ·simp only[List.mem_cons,List.not_mem_nil,or_false]at hx
   rw[hx];exact hw
 ·obtain⟨n,h1,rfl⟩:=List.mem_map.1 hx
  exact zV (hn n h1) d hd
theorem Xb {word:List UInt8} {ns:List Int} (hw: ∀y∈word,y≠32) (hn: ∀n∈ns,0<=n) (hne:ns≠ []):spl 32 (jn 32 (lw word ns))=lw word ns:=by
 refine Fc 32 _ ?_ (Zd (by decide) hw hn)
 unfold lw
 intro h
 have:=(List.append_eq_nil_iff.1 h).2
 exact hne (List.map_eq_nil_iff.1 this)
theorem Cg {d:UInt8} (h:d.toNat<48): ∀y∈cE,y≠d:=by
 intro y hy e
 subst e
 simp only[cE,List.mem_cons,List.not_mem_nil,or_false]at hy
 rcases hy with rfl|rfl|rfl|rfl|rfl<;>simp at h
theorem Bx {n:Int} (h:0<=n):Lib.itoa n≠cE:=by
 intro e
 have:=Jt h 102 (by rw[e];simp[cE])
 unfold Dig at this
 simp at this
structure Pr (st sa:Int) (fin:List Int) (arcs:List Arc):Prop where
 hst:1<=st/\st<=200
 hsa:0<=sa/\sa<10000000000
 hlen:(fin.length:Int)=st
 hfin: ∀w∈fin,-1<=w/\w<10000000000
 harc: ∀a∈arcs,∀n∈jP a,0<=n/\n<10000000000
theorem aAf {d:UInt8} (h1:d.toNat<48) (h2:d≠32): ∀(k:Nat) (l:List Int),(∀w∈l,-1<=w)-> ∀x∈sD k l,∀y∈x,y≠d
 |_,[],_=>by simp[sD]
 |k,w::l,h=>by
  intro x hx
  unfold sD at hx
  rcases List.mem_append.1 hx with hx|hx
  ·split at hx
   ·rename_i hw
    simp only[List.mem_cons,List.not_mem_nil,or_false]at hx
    subst hx
    have:=h w (by simp)
    refine Rh h2 (Zd h1 (Cg h1) ?_)
    intro n hn
    simp only[List.mem_cons,List.not_mem_nil,or_false]at hn
    rcases hn with rfl|rfl<;>omega
   ·simp at hx
  ·exact aAf h1 h2 (k+1) l (fun v hv=>h v (by simp[hv])) x hx
theorem Dv {st sa:Int} (h1:0<=st) (h2:0<=sa) {d:UInt8} (hd:d.toNat<48): ∀x∈ [sR,Lib.itoa st,yD,Lib.itoa sa],∀y∈x,y≠d:=by
 intro x hx
 simp only[List.mem_cons,List.not_mem_nil,or_false]at hx
 rcases hx with rfl|rfl|rfl|rfl
 ·intro y hy e
  subst e
  simp only[sR,List.mem_cons,List.not_mem_nil,or_false]at hy
  rcases hy with rfl|rfl|rfl|rfl|rfl|rfl<;>simp at hd
 ·exact zV h1 d hd
 ·intro y hy e
  subst e
  simp only[yD,List.mem_cons,List.not_mem_nil,or_false]at hy
  rcases hy with rfl|rfl|rfl|rfl|rfl<;>simp at hd
 ·exact zV h2 d hd
theorem aCI {st sa:Int} {fin:List Int} {arcs:List Arc} (h:Pr st sa fin arcs): ∀x∈prL st sa fin arcs,∀y∈x,y≠10:=by
 have h1:=h.hst
 have h2:=h.hsa
 intro x hx
 unfold prL at hx
 rcases List.mem_cons.1 hx with rfl|hx
 ·exact Rh (by decide) (Dv (by omega) (by omega) (by decide))
 rcases List.mem_append.1 hx with hx|hx
 ·exact aAf (by decide) (by decide) 0 fin (fun w hw=>(h.hfin w hw).1) x hx
 ·obtain⟨a,ha,rfl⟩:=List.mem_map.1 hx
  exact Rh (by decide) (Zd (by decide) (by simp) (fun n hn=>(h.harc a ha n hn).1))
theorem uY {n:Nat} {R R':RV} {x:List UInt8} {t:List (List UInt8)} (ht:t≠ []) (h:iE n R (spl 32 x)=some R'):kG n R (x::t)=kG (n+1) R' t:=by
 cases t with
 |nil=>exact absurd rfl ht
 |cons y r=>conv=>lhs;unfold kG
            rw[h]
theorem Va {st sa:Int} (h1:1<=st/\st<=200) (h2:0<=sa/\sa<10000000000):mB (spl 32 (Gq st sa))=some ⟨st,sa,List.replicate st.toNat (-1),[],-1⟩:=by
 unfold Gq
 rw[Fc 32 _ (by simp) (Dv (by omega) (by omega) (by decide))]
 have hn:dG [Lib.itoa st,Lib.itoa sa]=some [st,sa]:=mT (ns:= [st,sa]) (by
  intro n hn
  simp only[List.mem_cons,List.not_mem_nil,or_false]at hn
  rcases hn with rfl|rfl<;>omega)
 unfold mB
 rw[if_pos ⟨rfl,rfl,rfl⟩]
 show(dG [Lib.itoa st,Lib.itoa sa]).bind _=_
 rw[hn]
 exact if_pos h1
theorem Gu: ∀(ws:List Int) (pre:List Int) (n:Nat) (st sa last:Int) (t:List (List UInt8)),2<=n->t≠ []->last<pre.length->st=((pre.length+ws.length:Nat):Int)->(∀w∈ws,-1<=w/\w<10000000000)->pre.length+ws.length<=200->
  ∃n' last',2<=n'/\kG n ⟨st,sa,pre++List.replicate ws.length (-1),[],last⟩ (sD pre.length ws++t)=kG n' ⟨st,sa,pre++ws,[],last'⟩ t
 | [],pre,n,st,sa,last,t,hn,ht,hl,hs,hw,hc=>⟨n,last,hn,by simp[sD]⟩
 |w::ws,pre,n,st,sa,last,t,hn,ht,hl,hs,hw,hc=>by
  have h1:=hw w (by simp)
  have hw': ∀v∈ws,-1<=v/\v<10000000000:=fun v hv=>hw v (by simp[hv])
  simp only[List.length_cons]at hs hc
  have hpl:(pre++[w]).length=pre.length+1:=by simp
  by_cases hw1:w= -1
  ·subst hw1
   obtain⟨n',l',g1,g2⟩:=Gu ws (pre++[-1]) n st sa last t hn ht (by rw[hpl];omega) (by rw[hpl];omega) hw' (by rw[hpl];omega)
   refine⟨n',l',g1,?_⟩
   rw[hpl]at g2
   unfold sD
   rw[if_neg (by simp),List.nil_append,List.length_cons,List.replicate_succ]
   simp only[List.append_assoc,List.singleton_append]at g2
   exact g2
  ·obtain⟨n',l',g1,g2⟩:=Gu ws (pre++[w]) (n+1) st sa pre.length t (by omega) ht (by rw[hpl];omega) (by rw[hpl];omega) hw' (by rw[hpl];omega)
   refine⟨n',l',g1,?_⟩
   rw[hpl]at g2
   simp only[List.append_assoc,List.singleton_append]at g2
   rw[<-g2]
   show kG n _ ((if w≠ -1 then [jn 32 (lw cE [((pre.length:Nat):Int),w])]else [])++sD (pre.length+1) ws++t)=_
   rw[if_pos hw1,List.cons_append,List.nil_append,List.cons_append]
   refine uY ?_ ?_
   ·simp[ht]
   have hns: ∀m∈ [((pre.length:Nat):Int),w],0<=m/\m<10000000000:=by
    intro m hm
    simp only[List.mem_cons,List.not_mem_nil,or_false]at hm
    rcases hm with rfl|rfl<;>omega
   rw[Xb (Cg (by decide)) (fun m hm=>(hns m hm).1) (by simp)]
   have hlw:lw cE [((pre.length:Nat):Int),w]=[cE,Lib.itoa (pre.length:Nat),Lib.itoa w]:=by simp[lw,cE]
   rw[hlw]
   unfold iE
   rw[if_neg (by omega)]
   refine(if_pos rfl).trans ?_
   unfold Ah
   refine(if_pos rfl).trans ?_
   show(dG [Lib.itoa (pre.length:Nat),Lib.itoa w]).bind _=_
   rw[show dG [Lib.itoa (pre.length:Nat),Lib.itoa w]=some [((pre.length:Nat):Int),w]from mT hns]
   refine(if_pos ⟨rfl,hl,?_⟩).trans ?_
   ·simp only[nth,List.getD_cons_zero,List.getD_cons_succ,Int.toNat_natCast]
    congr 2
    rw[List.length_cons,List.replicate_succ,List.set_append_right _ _ (Nat.le_refl _)]
    simp
   ·show((pre.length:Nat):Int)<st
    omega
theorem Sc: ∀(al:List Arc) (R:RV) (n:Nat) (t:List (List UInt8)),2<=n->t≠ []->(∀a∈al,∀m∈jP a,0<=m/\m<10000000000)->
  ∃n',2<=n'/\kG n R (al.map Ev++t)=kG n' {R with arcs:=R.arcs++al} t
 | [],R,n,t,hn,ht,_=>⟨n,hn,by simp⟩
 |a::al,R,n,t,hn,ht,h=>by
  have ha:=h a (by simp)
  obtain⟨n',g1,g2⟩:=Sc al {R with arcs:=R.arcs++[a]} (n+1) t (by omega) ht (fun b hb=>h b (by simp[hb]))
  refine⟨n',g1,?_⟩
  simp only[List.append_assoc,List.singleton_append]at g2
  rw[<-g2,List.map_cons,List.cons_append]
  refine uY ?_ ?_
  ·simp[ht]
  unfold Ev
  rw[Xb (by simp) (fun m hm=>(ha m hm).1) (by simp[jP])]
  have hlw:lw [] (jP a)=[Lib.itoa a.f,Lib.itoa a.i,Lib.itoa a.o,Lib.itoa a.t,Lib.itoa a.w]:=by simp[lw,jP]
  rw[hlw]
  unfold iE
  rw[if_neg (by omega)]
  refine(if_neg (Bx (ha a.f (by simp[jP])).1)).trans ?_
  unfold Ox
  refine(if_pos rfl).trans ?_
  rw[show dG [Lib.itoa a.f,Lib.itoa a.i,Lib.itoa a.o,Lib.itoa a.t,Lib.itoa a.w]=some (jP a)from mT ha]
  rfl
theorem Yk {F:TF} (hok:aL F=0) (hl:(prF F).length<=100000): ∃last,lP (prF F)=(some ⟨F.st,F.start,F.fin,F.arcs,last⟩,0,0):=by
 have hF:=aK hok
 have h1:=hF.st
 have h2:=hF.start
 have h3:=hF.finl
 have hP:Pr F.st F.start F.fin F.arcs:=by
  refine⟨by omega,by omega,by omega,fun w hw=>?_,fun a ha n hn=>?_⟩
  ·have:=hF.fin w hw;omega
  ·obtain⟨q1,q2,q3,q4,q5,q6,q7,q8⟩:=hF.arc a ha
   simp only[jP,List.mem_cons,List.not_mem_nil,or_false]at hn
   rcases hn with rfl|rfl|rfl|rfl|rfl<;>omega
 have hst:F.st.toNat=F.fin.length:=by omega
 obtain⟨n1,l1,g1,g2⟩:=Gu F.fin [] 2 F.st F.start (-1) (F.arcs.map Ev++[[]]) (by omega) (by simp) (by simp) (by simp;omega) hP.hfin (by simp;omega)
 obtain⟨n2,g3,g4⟩:=Sc F.arcs ⟨F.st,F.start,F.fin,[],l1⟩ n1 [[]] g1 (by simp) hP.harc
 have hr:kG 1 nY (spl 10 (prF F))= .inl ⟨F.st,F.start,F.fin,F.arcs,l1⟩:=by
  rw[aBh,aAT _ (aCI hP)]
  unfold prL
  rw[List.cons_append,uY (by simp) (show iE 1 nY _=_ by unfold iE;rw[if_pos rfl];exact Va hP.hst hP.hsa)]
  simp only[List.nil_append,List.length_nil]at g2 g4
  rw[hst,List.append_assoc,g2,g4]
  unfold kG
  rw[if_pos ⟨by omega,rfl⟩]
 refine⟨l1,?_⟩
 unfold lP
 rw[if_neg (by omega),hr]
 exact if_pos (show aL (tfR ⟨F.st,F.start,F.fin,F.arcs,l1⟩)=0 from hok)
open Go.Proofs
theorem Uq (i w:Int):lnF cE [i,w]=cE++[32]++Lib.itoa i++[32]++Lib.itoa w++[10]:=by
 simp[lnF,lnK,vW,cE]
theorem aBw (a b c d e:Int):lnF [] [a,b,c,d,e]=Lib.itoa a++[32]++Lib.itoa b++[32]++Lib.itoa c++[32]++Lib.itoa d++[32]++Lib.itoa e++[10]:=by
 simp[lnF,lnK,vW]
abbrev smT:TF:=⟨2,0,[-1,1],[⟨0,1,2,1,5⟩],2,1⟩
def smS:List UInt8:= [115,116,97,116,101,115,32,50,32,115,116,97,114,116,32,48,10,102,105,110,97,108,32,49,32,49,10,48,32,49,32,50,32,49,32,53,10]
theorem uA (n:Nat) (h:n<10):Lib.itoa (n:Int)=[UInt8.ofNat (48+n)]:=by rw[Lib.itoa_nonneg,Lib.decDigits_one h]
theorem Xf:prF smT=smS:=by
 have h0:=uA 0 (by omega)
 have h1:=uA 1 (by omega)
 have h2:=uA 2 (by omega)
 have h5:=uA 5 (by omega)
 simp only[prF,hdL,kR,iP,Uq,aBw,jP,List.length_cons,List.length_nil]
 simp[mN,uV,cE,smS,lnF,lnK,vW,jP]
 simp only[show((2:Nat):Int)=2 from rfl,show((0:Nat):Int)=0 from rfl,show((1:Nat):Int)=1 from rfl,show((5:Nat):Int)=5 from rfl]at h0 h1 h2 h5
 rw[h0,h1,h2,h5]
 rfl
theorem Co:aL smT=0:=by decide
theorem Xg: ∃last,lP smS=(some ⟨2,0,[-1,1],[⟨0,1,2,1,5⟩],last⟩,0,0):=by
 have:=Yk Co (by rw[Xf];decide)
 rw[Xf]at this
 exact this
theorem aD1 {p:Nat->Bool} (h:nH smT p):p 0=true/\p 1=true:=by
 have ha:(⟨0,1,2,1,5⟩:Arc)∈smT.arcs:=by simp
 have r0:Rch smT.arcs false [smT.start] 0:= .here (by simp)
 have r1:Rch smT.arcs false [smT.start] 1:=Rch.on r0 ha rfl
 have b1:Rch smT.arcs true [((1:Nat):Int)] 1:= .here (by simp)
 have b0:Rch smT.arcs true [((1:Nat):Int)] 0:=Rch.on b1 ha rfl
 exact⟨(h.iff 0 (by decide)).2 ⟨r0,1,by decide,by decide,b0⟩,(h.iff 1 (by decide)).2 ⟨r1,1,by decide,by decide,b1⟩⟩
theorem aAU {st sa:Int} {fin:List Int} {arcs:List Arc} (h:kY smT st sa fin arcs):st=2/\sa=0/\fin=[-1,1]/\arcs=[⟨0,1,2,1,5⟩]:=by
 rcases h with⟨h,_⟩|⟨_,p,hp,h1,h2,h3,h4⟩
 ·exact absurd Co h
 ·obtain⟨p0,p1⟩:=aD1 hp
  have hk:kT smT p=⟨2,0,[-1,1],[⟨0,1,2,1,5⟩],0,0⟩:=by
   simp[kT,smT,rkB,bY,bW,kOk,jN,p0,p1,List.getD,aD]
  rw[hk]at h1 h2 h3 h4
  exact⟨h1,h2,h3,h4⟩
theorem Px (a b c d:Nat):eW ⟨2,0,[-1,1],[⟨0,1,2,1,5⟩],a,b⟩ ⟨2,0,[-1,1],[⟨0,1,2,1,5⟩],c,d⟩=true:=by kernel_rfl
theorem aAV {g:Glo} {v:SV} {s:S} (h:wM g (lP smS) v s): ∃sp sq,v= .tup [.agg [.i 2,.i 0,.sl 1 1 0 2 (2+sp),.sl 2 5 0 1 (1+sq)],.c (.i 0),.c (.i 0)]/\
  s=⟨[],[(0,aF g),(1,.arr true 3 .int [-1,1] sp),(2,.arr true 55 .arc [⟨0,1,2,1,5⟩] sq)],3⟩:=by
 obtain⟨last,hp⟩:=Xg
 rw[hp]at h
 obtain⟨R,sp,sq,rfl,rfl,rfl⟩:=h
 exact⟨sp,sq,rfl,rfl⟩
theorem Xe {v:SV} {s:S} (h:Ls smT v s): ∃sp sq,v= .tup [.agg [.i 2,.i 0,.sl 2 1 0 2 (2+sp),.sl 3 5 0 1 (1+sq)],.c (.i 0)]/\
  s=⟨[],[(2,.arr true 3 .int [-1,1] sp),(3,.arr true 55 .arc [⟨0,1,2,1,5⟩] sq)],4⟩:=by
 obtain⟨st,sa,fin,arcs,sp,sq,hU,rfl,rfl⟩:=h
 obtain⟨rfl,rfl,rfl,rfl⟩:=aAU hU
 rw[Co]
 exact⟨sp,sq,rfl,rfl⟩
theorem Nu (g:Glo) (hg:gJ g):Ct Tryz.prog 4 [] [] [(0,aF g)] 1 (fun v s=>v= .b true/\s=⟨[],[(0,aF g)],1⟩):=by
 refine ctW Tryz.tyOk 8 [] Tryz.func4 rfl (by simp) (by simp) (fr:= []) rfl ?_
 refine gO ?_
 refine cF (eK) [] Tryz.call33 ?_
 rintro _ _ ⟨rfl,rfl⟩
 refine gM ?_
 refine aO (aBg g hg smT (by decide)) [1,2,0] Tryz.call32 rfl (by simp[cO]) (by simp[cO]) (by simp) ?_
 rintro _ _ ⟨rfl,rfl⟩
 rw[if_pos Co,Co,Xf]
 refine gM ?_
 refine cF (aBj g hg smS (by decide)) [0] Tryz.call34 ?_
 rintro _ _ hp
 obtain⟨sp,sq,rfl,rfl⟩:=aAV hp
 clear hp
 refine gM ?_
 refine cF (eK) [] Tryz.call33 ?_
 rintro _ _ ⟨rfl,rfl⟩
 refine gM ?_
 refine aO (Wm smT (by decide)) [6,7] Tryz.call15 rfl (by simp[cO]) (by simp[cO]) (by simp) ?_
 rintro _ _ hp
 obtain⟨sp2,sq2,rfl,rfl⟩:=Xe hp
 clear hp
 refine gM ?_
 refine cF (eK) [] Tryz.call33 ?_
 rintro _ _ ⟨rfl,rfl⟩
 refine gM ?_
 refine aO (aU smT (by decide)) [11,12] Tryz.call35 rfl (by simp[cO]) (by simp[cO]) (by simp) ?_
 rintro _ _ ⟨rfl,rfl⟩
 rw[Co]
 refine gI ?_
 refine⟨fun h=>?_,fun h=>?_⟩
 rotate_left
 ·exact absurd rfl h
 (conv=>whnf)
 try simp only[Nat.reduceAdd,Nat.reduceSub]
 refine cF (eK) [] Tryz.call33 ?_
 rintro _ _ ⟨rfl,rfl⟩
 refine gM ?_
 refine aO (jR ⟨2,0,[-1,1],[⟨0,1,2,1,5⟩],2+sp,1+sq⟩ smT (show([-1,1]:List Int).length<=9223372036854775807 by decide) (by decide) (show([⟨0,1,2,1,5⟩]:List Arc).length<=9223372036854775807 by decide)) [3,4,13,14] Tryz.call28 rfl (by simp[cO,gV,smT]) (by simp[cO,gV,smT]) (by simp) ?_
 rintro _ _ ⟨rfl,rfl⟩
 rw[Px]
 refine gM ?_
 refine cF (eK) [] Tryz.call33 ?_
 rintro _ _ ⟨rfl,rfl⟩
 refine gM ?_
 refine aO (jR ⟨2,0,[-1,1],[⟨0,1,2,1,5⟩],2+sp2,1+sq2⟩ smT (show([-1,1]:List Int).length<=9223372036854775807 by decide) (by decide) (show([⟨0,1,2,1,5⟩]:List Arc).length<=9223372036854775807 by decide)) [8,9,15,16] Tryz.call28 rfl (by simp[cO,gV,smT]) (by simp[cO,gV,smT]) (by simp) ?_
 rintro _ _ ⟨rfl,rfl⟩
 rw[Px]
 refine gI ?_
 exact⟨[],[(0,aF g)],1,.b true,⟨by rfl,trivial,by simp[aF]⟩,by simp,rfl,rfl⟩
abbrev Zz (F:TF) (i:Nat):List SC:= [.i F.st,.i F.start,.sl i 1 0 F.fin.length F.capF,.sl (i+1) 5 0 F.arcs.length F.capA]
abbrev hpI (F G:TF) (u v:List Int) (x:Glo):List (Nat×SO):=hpG F G++[(4,.arr false 3 .int u 0),(5,.arr false 3 .int v 0),(6,aF x)]
abbrev hpY (F G:TF) (u v:List Int) (x:Glo) (a b c d:Nat):List (Nat×SO):=hpI F G u v x++[(7,.box 25 (Zz F 0)),(8,.box 25 (Zz G 2)),(9,.arr true 3 .int F.fin a),(10,.arr true 55 .arc F.arcs b),(11,.arr true 3 .int G.fin c),(12,.arr true 55 .arc G.arcs d),
 (13,.box 25 (rC ⟨F.st,F.start,F.fin,F.arcs,a,b⟩ 9)),(14,.box 25 (rC ⟨G.st,G.start,G.fin,G.arcs,c,d⟩ 11))]
abbrev hpZ (F G:TF) (u v:List Int) (x:Glo) (a b c d:Nat) (R:TF):List (Nat×SO):=hpY F G u v x a b c d++[(15,.box 25 (rC R 16)),(16,.arr true 3 .int R.fin R.capF),(17,.arr true 55 .arc R.arcs R.capA)]
abbrev frZ (F:TF) (u v:List Int) (cu cv:Nat):List (Nat×SV):= [(2,.c (.sl 4 1 0 u.length cu)),(3,.c (.sl 5 1 0 v.length cv)),(4,.c (.ptr 7 0)),(5,.c (.ptr 8 0)),(8,.b false),(9,.c (.ptr 13 0)),(10,.c (.ptr 14 0)),(11,.i (aL F)),(12,.c (.ptr 15 0))]
abbrev tF (R:TF):TF:=⟨R.st,R.start,R.fin,R.arcs,R.fin.length+R.capF,R.arcs.length+R.capA⟩
theorem tB {F G:TF} (h:F.st=G.st/\F.start=G.start/\F.fin=G.fin/\F.arcs=G.arcs):eW F G=true:=decide_eq_true h
theorem kY.bd {F:TF} {st sa:Int} {fin:List Int} {arcs:List Arc} (h:kY F st sa fin arcs):fin.length<=9223372036854775807/\arcs.length<=9223372036854775807:=by
 rcases h with⟨_,_,_,rfl,rfl⟩|⟨h0,p,_,_,_,rfl,rfl⟩
 ·exact⟨by decide,by decide⟩
 ·have hF:=aK h0
  have h1:=hF.st
  have h2:=hF.arcl
  unfold kT
  split
  ·have h3:=iM p F.fin F.st.toNat
   have h4:=uZ p F.st.toNat
   have h5:=iN p F.arcs F.arcs.length
   exact⟨by simp only;omega,by simp only;omega⟩
  ·exact⟨by simp only;decide,by simp only;decide⟩
theorem kY.caps {F:TF} {cf ca:Nat} {st sa:Int} {fin:List Int} {arcs:List Arc} (h:kY ⟨F.st,F.start,F.fin,F.arcs,cf,ca⟩ st sa fin arcs):kY F st sa fin arcs:=by
 rcases h with h|⟨h0,p,hp,h1,h2,h3,h4⟩
 ·exact .inl h
 ·exact .inr ⟨h0,p,⟨hp.iff⟩,h1,h2,h3,h4⟩
theorem aAP {F R T:TF} (h:kY F R.st R.start R.fin R.arcs) (h':kY F T.st T.start T.fin T.arcs):(decide (aL F=aL F)&&eW (tF T) (if aL F=0 then tF R else Ce))=true:=by
 obtain⟨e1,e2,e3,e4⟩:=h'.uniq h
 rw[decide_eq_true rfl,Bool.true_and]
 split
 ·exact tB ⟨e1,e2,e3,e4⟩
 ·rename_i hn
  rcases h' with⟨_,q1,q2,q3,q4⟩|⟨h0,_⟩
  ·exact tB ⟨q1,q2,q3,q4⟩
  ·exact absurd h0 hn
theorem aAQ (F:TF) (hl:F.fin.length<=9223372036854775807):Ct Tryz.prog 15 [fV F] [] (hpF F) 2 (fun v s=> ∃T:TF,kY F T.st T.start T.fin T.arcs/\v= .tup [.agg (rC T 2),.c (.i (aL F))]/\s=⟨[],[(2,.arr true 3 .int T.fin T.capF),(3,.arr true 55 .arc T.arcs T.capA)],4⟩):=by
 refine(Wm F hl).to ?_
 rintro _ _ ⟨st,sa,fin,arcs,sp,sq,h,rfl,rfl⟩
 exact⟨⟨st,sa,fin,arcs,sp,sq⟩,h,rfl,rfl⟩
theorem Mq (F G:TF) (u v:List Int) (cu cv:Nat) (f1:F.fin.length*8<=140737488355328) (f2:F.arcs.length*40<=140737488355328) (g1:G.fin.length*8<=140737488355328) (g2:G.arcs.length*40<=140737488355328) (x:Glo) (hx:gJ x):
  Ct Tryz.prog 3 [fV F,gV G,.c (.sl 4 1 0 u.length cu),.c (.sl 5 1 0 v.length cv)] [] (hpI F G u v x) 7 (fun v s=>v= .b true/\s=⟨[],[(6,aF x)],7⟩):=by
 refine ctC Tryz.tyOk Tryz.func3 rfl (by simp[gV]) (by simp) (fr:= [(0,fV F),(1,gV G),(2,.c (.sl 4 1 0 u.length cu)),(3,.c (.sl 5 1 0 v.length cv))]) rfl ?_
 refine gH.cut Tryz.tyOk 45 [] (fun y:Nat×Nat×Nat×Nat×TF=>⟨frZ F u v cu cv,hpZ F G u v x y.1 y.2.1 y.2.2.1 y.2.2.2.1 y.2.2.2.2,18⟩) (fun y=>kY F y.2.2.2.2.st y.2.2.2.2.start y.2.2.2.2.fin y.2.2.2.2.arcs) 6 _ _ ?_ ?_
 ·refine gO ?_
  refine cF (Nu x hx) [6] Tryz.call4 ?_
  rintro _ _ ⟨rfl,rfl⟩
  refine gM ?_
  refine cI (Fh) [] Tryz.call5 ?_
  refine gM ?_
  refine cI (Bu) [] Tryz.call6 ?_
  refine gM ?_
  refine cI (As) [] Tryz.call7 ?_
  refine gM ?_
  refine cI (Fs) [] Tryz.call8 ?_
  refine gM ?_
  refine cI (Fe) [] Tryz.call9 ?_
  refine gM ?_
  refine cF (wD x hx) [6] Tryz.call10 ?_
  rintro _ _ ⟨rfl,rfl⟩
  refine gM ?_
  refine cF (Gk x hx) [6] Tryz.call11 ?_
  rintro _ _ ⟨rfl,rfl⟩
  repeat' (first|exact rfl|((conv=>whnf);first|(refine qX (fun h=>?_) fun h=>?_<;>try exact absurd h (by omega))|refine oN ?_|refine oM ?_ ?_|refine bM ?_ ?_))
  (conv=>whnf)
  try simp only[Nat.reduceAdd,Nat.reduceSub]
  refine jO (fun y:Nat×Nat×Nat×Nat=>⟨[(2,.c (.sl 4 1 0 u.length cu)),(3,.c (.sl 5 1 0 v.length cv)),(4,.c (.ptr 7 0)),(5,.c (.ptr 8 0)),(8,.b false),(9,.c (.ptr 13 0)),(10,.c (.ptr 14 0))],hpY F G u v x y.1 y.2.1 y.2.2.1 y.2.2.2,15⟩) (fun _=>True) ?_ ?_
  ·refine gO ?_
   refine⟨?_,⟨?_,?_⟩,?_,?_⟩
   all_goals
    (conv=>whnf)
    try simp only[Nat.reduceAdd,Nat.reduceSub]
    refine cF (Ku F f1 f2) [0,1] Tryz.call12 ?_
    rintro _ _ ⟨a,b,rfl,rfl⟩
    repeat' (first|exact rfl|((conv=>whnf);first|(refine qX (fun h=>?_) fun h=>?_<;>try exact absurd h (by omega))|refine oN ?_|refine oM ?_ ?_|refine bM ?_ ?_|refine dR ?_|intro _))
    all_goals
     (conv=>whnf)
     try simp only[Nat.reduceAdd,Nat.reduceSub]
     refine aO (Ku G g1 g2) [2,3] Tryz.call12 rfl (by simp[gV]) (by simp[gV]) (by simp) ?_
     rintro _ _ ⟨c,d,rfl,rfl⟩
     repeat' (first|exact rfl|((conv=>whnf);first|(refine qX (fun h=>?_) fun h=>?_<;>try exact absurd h (by omega))|refine oN ?_|refine oM ?_ ?_|refine bM ?_ ?_|refine dR ?_|intro _))
     all_goals
      (conv=>whnf)
      try simp only[Nat.reduceAdd,Nat.reduceSub]
      first
      |(refine⟨(a,b,c,d),[],⟨by rfl,?_,?_⟩,trivial⟩<;>(focus (simp;done)))
      |(refine⟨(a,b,c,d),[(13,some 14),(14,some 13)],⟨by rfl,?_,?_⟩,trivial⟩<;>(focus (simp;done)))
      |(refine⟨(a,b,c,d),[(11,some 12),(12,some 13),(13,some 11)],⟨by rfl,?_,?_⟩,trivial⟩<;>(focus (simp;done)))
      |(refine⟨(a,b,c,d),[(11,some 13),(12,some 14),(13,some 11),(14,some 12)],⟨by rfl,?_,?_⟩,trivial⟩<;>(focus (simp;done)))
      |(refine⟨(a,b,c,d),[(11,some 12),(12,some 13),(13,some 14),(14,some 11)],⟨by rfl,?_,?_⟩,trivial⟩<;>(focus (simp;done)))
      |(refine⟨(a,b,c,d),[(11,some 13),(12,some 14),(13,some 12),(14,some 11)],⟨by rfl,?_,?_⟩,trivial⟩<;>(focus (simp;done)))
      |(refine⟨(a,b,c,d),[(9,some 10),(10,some 11),(11,some 12),(12,some 13),(13,some 9)],⟨by rfl,?_,?_⟩,trivial⟩<;>(focus (simp;done)))
      |(refine⟨(a,b,c,d),[(9,some 10),(10,some 11),(11,some 13),(12,some 14),(13,some 9),(14,some 12)],⟨by rfl,?_,?_⟩,trivial⟩<;>(focus (simp;done)))
      |(refine⟨(a,b,c,d),[(9,some 11),(10,some 12),(11,some 13),(12,some 14),(13,some 9),(14,some 10)],⟨by rfl,?_,?_⟩,trivial⟩<;>(focus (simp;done)))
      |(refine⟨(a,b,c,d),[(9,some 10),(10,some 11),(11,some 12),(12,some 13),(13,some 14),(14,some 9)],⟨by rfl,?_,?_⟩,trivial⟩<;>(focus (simp;done)))
      |(refine⟨(a,b,c,d),[(9,some 10),(10,some 11),(11,some 13),(12,some 14),(13,some 12),(14,some 9)],⟨by rfl,?_,?_⟩,trivial⟩<;>(focus (simp;done)))
      |(refine⟨(a,b,c,d),[(9,some 11),(10,some 12),(11,some 13),(12,some 14),(13,some 10),(14,some 9)],⟨by rfl,?_,?_⟩,trivial⟩<;>(focus (simp;done)))
  rintro⟨a,b,c,d⟩-
  repeat' (first|exact rfl|((conv=>whnf);first|(refine qX (fun h=>?_) fun h=>?_<;>try exact absurd h (by omega))|refine oN ?_|refine oM ?_ ?_|refine bM ?_ ?_))
  (conv=>whnf)
  try simp only[Nat.reduceAdd,Nat.reduceSub]
  refine cI (Ol F) [0,1] Tryz.call13 ?_
  refine gO ?_
  refine⟨fun h=>?_,fun h=>?_⟩
  ·try simp only[Nat.reduceAdd,Nat.reduceSub]
   have hF:=aK h
   refine cF (Wn F (FRng.of hF) hF.start (fun n hn=>(hF.fin n hn).1)) [0,1] Tryz.call14 ?_
   rintro _ _ ⟨p,hp,sp,sq,rfl,rfl⟩
   refine gM ?_
   refine⟨(a,b,c,d,⟨(kT F p).st,(kT F p).start,(kT F p).fin,(kT F p).arcs,sp,sq⟩),[],⟨by rfl,?_,?_⟩,.inr ⟨h,p,hp,rfl,rfl,rfl,rfl⟩⟩
   ·simp
   ·simp
  ·(conv=>whnf)
   try simp only[Nat.reduceAdd,Nat.reduceSub]
   refine⟨(a,b,c,d,noR),[(16,none),(17,none)],⟨by rfl,?_,?_⟩,.inl ⟨h,rfl,rfl,rfl,rfl⟩⟩
   ·simp
   ·simp[cT]
 rintro⟨a,b,c,d,R⟩ hR
 simp only at hR⊢
 have hX:F.fin.length<=9223372036854775807:=by omega
 have hY:G.fin.length<=9223372036854775807:=by omega
 have hA:F.arcs.length<=9223372036854775807:=by omega
 have hB:G.arcs.length<=9223372036854775807:=by omega
 refine gH.of Tryz.tyOk 45 [] ?_
 refine gN ?_
 refine aJ (fun z:Nat=>⟨frZ F u v cu cv++[(13,.i z)],hpZ F G u v x a b c d R,18⟩) (fun z=>z<=2) (fun z=>2-z) 0 [] ⟨by rfl,?_,?_⟩ (Nat.zero_le _) ?_
 ·simp
 ·simp
 ·intro z hz
  (conv=>whnf)
  refine aG (fun hz2=>?_) (fun hz2=>?_)
  ·refine gN ?_
   refine cF (aAQ ⟨F.st,F.start,F.fin,F.arcs,F.fin.length+a,F.arcs.length+b⟩ hX) [9,10] Tryz.call15 ?_
   rintro _ _ ⟨T0,hT0,rfl,rfl⟩
   rw[show aL ⟨F.st,F.start,F.fin,F.arcs,F.fin.length+a,F.arcs.length+b⟩=aL F from rfl]
   refine gM ?_
   refine cF (Uu ⟨F.st,F.start,F.fin,F.arcs,F.fin.length+a,F.arcs.length+b⟩ hX) [9,10] Tryz.call16 ?_
   rintro _ _ ⟨T1,e1,b1,rfl,rfl⟩
   refine gM ?_
   refine aO (Vg ⟨F.st,F.start,F.fin,F.arcs,F.fin.length+a,F.arcs.length+b⟩ ⟨G.st,G.start,G.fin,G.arcs,G.fin.length+c,G.arcs.length+d⟩ hX hY) [9,10,11,12] Tryz.call17 rfl (by simp[gV]) (by simp[gV]) (by simp) ?_
   rintro _ _ ⟨T2,e2,b2,rfl,rfl⟩
   refine gM ?_
   refine aO (Vs ⟨F.st,F.start,F.fin,F.arcs,F.fin.length+a,F.arcs.length+b⟩ ⟨G.st,G.start,G.fin,G.arcs,G.fin.length+c,G.arcs.length+d⟩ hX hY) [9,10,11,12] Tryz.call18 rfl (by simp[gV]) (by simp[gV]) (by simp) ?_
   rintro _ _ ⟨T3,e3,b3,rfl,rfl⟩
   refine gM ?_
   refine cF (aAC ⟨F.st,F.start,F.fin,F.arcs,F.fin.length+a,F.arcs.length+b⟩ hX) [9,10] Tryz.call19 ?_
   rintro _ _ ⟨T4,e4,b4,rfl,rfl⟩
   refine gM ?_
   refine aO (Oh ⟨F.st,F.start,F.fin,F.arcs,F.fin.length+a,F.arcs.length+b⟩ ⟨G.st,G.start,G.fin,G.arcs,G.fin.length+c,G.arcs.length+d⟩ hX hY) [9,10,11,12] Tryz.call20 rfl (by simp[gV]) (by simp[gV]) (by simp) ?_
   rintro _ _ ⟨T5,e5,b5,rfl,rfl⟩
   refine gM ?_
   refine cF (Yg ⟨F.st,F.start,F.fin,F.arcs,F.fin.length+a,F.arcs.length+b⟩ hX) [9,10] Tryz.call21 ?_
   rintro _ _ ⟨T6,e6,b6,rfl,rfl⟩
   refine gM ?_
   refine cF (aBf ⟨F.st,F.start,F.fin,F.arcs,F.fin.length+a,F.arcs.length+b⟩ hX) [9,10] Tryz.call22 ?_
   rintro _ _ ⟨T7,n7,e7,b7,rfl,rfl⟩
   refine gM ?_
   refine cF (aDt ⟨F.st,F.start,F.fin,F.arcs,F.fin.length+a,F.arcs.length+b⟩ hX) [9,10] Tryz.call23 ?_
   rintro _ _ ⟨l1,p1,e10,b10,rfl,rfl⟩
   refine gM ?_
   refine cF (aBZ ⟨F.st,F.start,F.fin,F.arcs,F.fin.length+a,F.arcs.length+b⟩ hX) [9,10] Tryz.call24 ?_
   rintro _ _ ⟨l2,p2,n11,e11,b11,rfl,rfl⟩
   refine gM ?_
   refine cF (aAM ⟨F.st,F.start,F.fin,F.arcs,F.fin.length+a,F.arcs.length+b⟩ u v cu cv hX) [9,10,4,5] Tryz.call25 ?_
   rintro _ _ ⟨l3,p3,n12,e12,b12,rfl,rfl⟩
   refine gM ?_
   refine cF (Hb ⟨F.st,F.start,F.fin,F.arcs,F.fin.length+a,F.arcs.length+b⟩ hX x hx) [9,10,6] Tryz.call26 ?_
   rintro _ _ ⟨T8,e8,b8,rfl,rfl⟩
   refine gM ?_
   refine cF (Zj ⟨F.st,F.start,F.fin,F.arcs,F.fin.length+a,F.arcs.length+b⟩ hX x hx) [9,10,6] Tryz.call27 ?_
   rintro _ _ ⟨T9,e9,b9,rfl,rfl⟩
   refine gM ?_
   refine aO (jR ⟨F.st,F.start,F.fin,F.arcs,F.fin.length+a,F.arcs.length+b⟩ F hX hX hA) [9,10,0,1] Tryz.call28 rfl (by simp[gV]) (by simp[gV]) (by simp) ?_
   rintro _ _ ⟨rfl,rfl⟩
   rw[show eW ⟨F.st,F.start,F.fin,F.arcs,F.fin.length+a,F.arcs.length+b⟩ F=true from tB ⟨rfl,rfl,rfl,rfl⟩]
   refine gM ?_
   refine aO (jR ⟨G.st,G.start,G.fin,G.arcs,G.fin.length+c,G.arcs.length+d⟩ G hY hY hB) [11,12,2,3] Tryz.call28 rfl (by simp[gV]) (by simp[gV]) (by simp) ?_
   rintro _ _ ⟨rfl,rfl⟩
   rw[show eW ⟨G.st,G.start,G.fin,G.arcs,G.fin.length+c,G.arcs.length+d⟩ G=true from tB ⟨rfl,rfl,rfl,rfl⟩]
   refine gM ?_
   replace hT0:=hT0.caps
   have hbT:=hT0.bd
   have hbR:=hR.bd
   refine aO (aBI (tF T0) (tF R) (aL F) (aL F) hbT.1 hbR.1 hbT.2) [18,19,16,17] Tryz.call29 rfl (by simp[gV]) (by simp[gV]) (by simp) ?_
   rintro _ _ ⟨rfl,rfl⟩
   rw[aAP hR hT0]
   refine gM ?_
   refine aJ (fun y:Nat×(Nat->List Int)×(Nat->List Arc)=>⟨frZ F u v cu cv++[(13,.i z),(31,.c (.sl 42 1 0 l1.length (l1.length+p1))),(33,.c (.sl 43 1 0 l2.length (l2.length+p2))),(36,.c (.sl 44 1 0 l3.length (l3.length+p3))),(43,.c (.sl 51 4 0 10 10)),(44,.i y.1)],
     hpZ F G u v x a b c d R++[(18,.arr true 3 .int (y.2.1 0) T0.capF),(19,.arr true 55 .arc (y.2.2 0) T0.capA),(21,.arr true 3 .int (y.2.1 1) T1.capF),(22,.arr true 55 .arc (y.2.2 1) T1.capA),(24,.arr true 3 .int (y.2.1 2) T2.capF),(25,.arr true 55 .arc (y.2.2 2) T2.capA),(27,.arr true 3 .int (y.2.1 3) T3.capF),(28,.arr true 55 .arc (y.2.2 3) T3.capA),(30,.arr true 3 .int (y.2.1 4) T4.capF),(31,.arr true 55 .arc (y.2.2 4) T4.capA),(33,.arr true 3 .int (y.2.1 5) T5.capF),(34,.arr true 55 .arc (y.2.2 5) T5.capA),(36,.arr true 3 .int (y.2.1 6) T6.capF),(37,.arr true 55 .arc (y.2.2 6) T6.capA),(39,.arr true 3 .int (y.2.1 7) T7.capF),(40,.arr true 55 .arc (y.2.2 7) T7.capA),(45,.arr true 3 .int (y.2.1 8) T8.capF),(46,.arr true 55 .arc (y.2.2 8) T8.capA),(48,.arr true 3 .int (y.2.1 9) T9.capF),(49,.arr true 55 .arc (y.2.2 9) T9.capA),(42,.arr true 3 .int l1 p1),(43,.arr true 3 .int l2 p2),(44,.arr true 3 .int l3 p3),(51,.box 25 [.i T0.st,.i T0.start,.sl 18 1 0 T0.fin.length (T0.fin.length+T0.capF),.sl 19 5 0 T0.arcs.length (T0.arcs.length+T0.capA),.i T1.st,.i T1.start,.sl 21 1 0 T1.fin.length (T1.fin.length+T1.capF),.sl 22 5 0 T1.arcs.length (T1.arcs.length+T1.capA),.i T2.st,.i T2.start,.sl 24 1 0 T2.fin.length (T2.fin.length+T2.capF),.sl 25 5 0 T2.arcs.length (T2.arcs.length+T2.capA),.i T3.st,.i T3.start,.sl 27 1 0 T3.fin.length (T3.fin.length+T3.capF),.sl 28 5 0 T3.arcs.length (T3.arcs.length+T3.capA),.i T4.st,.i T4.start,.sl 30 1 0 T4.fin.length (T4.fin.length+T4.capF),.sl 31 5 0 T4.arcs.length (T4.arcs.length+T4.capA),.i T5.st,.i T5.start,.sl 33 1 0 T5.fin.length (T5.fin.length+T5.capF),.sl 34 5 0 T5.arcs.length (T5.arcs.length+T5.capA),.i T6.st,.i T6.start,.sl 36 1 0 T6.fin.length (T6.fin.length+T6.capF),.sl 37 5 0 T6.arcs.length (T6.arcs.length+T6.capA),.i T7.st,.i T7.start,.sl 39 1 0 T7.fin.length (T7.fin.length+T7.capF),.sl 40 5 0 T7.arcs.length (T7.arcs.length+T7.capA),.i T8.st,.i T8.start,.sl 45 1 0 T8.fin.length (T8.fin.length+T8.capF),.sl 46 5 0 T8.arcs.length (T8.arcs.length+T8.capA),.i T9.st,.i T9.start,.sl 48 1 0 T9.fin.length (T9.fin.length+T9.capF),.sl 49 5 0 T9.arcs.length (T9.arcs.length+T9.capA)])],52⟩)
    (fun y=>y.1<=10/\((y.2.1 0).length=T0.fin.length/\(y.2.2 0).length=T0.arcs.length)/\((y.2.1 1).length=T1.fin.length/\(y.2.2 1).length=T1.arcs.length)/\((y.2.1 2).length=T2.fin.length/\(y.2.2 2).length=T2.arcs.length)/\((y.2.1 3).length=T3.fin.length/\(y.2.2 3).length=T3.arcs.length)/\((y.2.1 4).length=T4.fin.length/\(y.2.2 4).length=T4.arcs.length)/\((y.2.1 5).length=T5.fin.length/\(y.2.2 5).length=T5.arcs.length)/\((y.2.1 6).length=T6.fin.length/\(y.2.2 6).length=T6.arcs.length)/\((y.2.1 7).length=T7.fin.length/\(y.2.2 7).length=T7.arcs.length)/\((y.2.1 8).length=T8.fin.length/\(y.2.2 8).length=T8.arcs.length)/\((y.2.1 9).length=T9.fin.length/\(y.2.2 9).length=T9.arcs.length)) (fun y=>10-y.1) (0,fun j=>([T0,T1,T2,T3,T4,T5,T6,T7,T8,T9].getD j T0).fin,fun j=>([T0,T1,T2,T3,T4,T5,T6,T7,T8,T9].getD j T0).arcs) [] ⟨by rfl,?_,?_⟩ ⟨Nat.zero_le _,by simp⟩ ?_
   ·simp
   ·simp
   ·rintro⟨n,L,A⟩ ⟨hn,⟨h0,g0⟩,⟨h1,g1⟩,⟨h2,g2⟩,⟨h3,g3⟩,⟨h4,g4⟩,⟨h5,g5⟩,⟨h6,g6⟩,⟨h7,g7⟩,⟨h8,g8⟩,⟨h9,g9⟩⟩
    simp only at hn h0 g0 h1 g1 h2 g2 h3 g3 h4 g4 h5 g5 h6 g6 h7 g7 h8 g8 h9 g9⊢
    (conv=>whnf)
    refine aG (fun hn2=>?_) (fun hn2=>?_)
    ·have hc:n=0\/n=1\/n=2\/n=3\/n=4\/n=5\/n=6\/n=7\/n=8\/n=9:=by omega
     rcases hc with rfl|rfl|rfl|rfl|rfl|rfl|rfl|rfl|rfl|rfl
     ·refine gN ?_
      refine aO (iC ⟨T0.st,T0.start,L 0,A 0,T0.fin.length+T0.capF,T0.arcs.length+T0.capA⟩ T0.capF T0.capA (Nat.le_trans (Nat.le_of_eq h0) hbT.1) (Nat.le_trans (Nat.le_of_eq g0) hbT.2)) [18,19] Tryz.call30 rfl (by simp[h0,g0]) (by simp[h0,g0]) (by simp) ?_
      rintro _ _ ⟨l,r,hl,hr,rfl,rfl⟩
      refine gM ?_
      refine⟨(1,fun j=>if j=0 then l else L j,fun j=>if j=0 then r else A j),[],⟨by rfl,?_,?_⟩,⟨by simp only;omega,by simp[*]⟩,by simp only;omega⟩
      ·simp
      ·simp
     ·refine gN ?_
      refine aO (iC ⟨T1.st,T1.start,L 1,A 1,T1.fin.length+T1.capF,T1.arcs.length+T1.capA⟩ T1.capF T1.capA (Nat.le_trans (Nat.le_of_eq h1) b1.1) (Nat.le_trans (Nat.le_of_eq g1) b1.2)) [21,22] Tryz.call30 rfl (by simp[h1,g1]) (by simp[h1,g1]) (by simp) ?_
      rintro _ _ ⟨l,r,hl,hr,rfl,rfl⟩
      refine gM ?_
      refine⟨(2,fun j=>if j=1 then l else L j,fun j=>if j=1 then r else A j),[],⟨by rfl,?_,?_⟩,⟨by simp only;omega,by simp[*]⟩,by simp only;omega⟩
      ·simp
      ·simp
     ·refine gN ?_
      refine aO (iC ⟨T2.st,T2.start,L 2,A 2,T2.fin.length+T2.capF,T2.arcs.length+T2.capA⟩ T2.capF T2.capA (Nat.le_trans (Nat.le_of_eq h2) b2.1) (Nat.le_trans (Nat.le_of_eq g2) b2.2)) [24,25] Tryz.call30 rfl (by simp[h2,g2]) (by simp[h2,g2]) (by simp) ?_
      rintro _ _ ⟨l,r,hl,hr,rfl,rfl⟩
      refine gM ?_
      refine⟨(3,fun j=>if j=2 then l else L j,fun j=>if j=2 then r else A j),[],⟨by rfl,?_,?_⟩,⟨by simp only;omega,by simp[*]⟩,by simp only;omega⟩
      ·simp
      ·simp
     ·refine gN ?_
      refine aO (iC ⟨T3.st,T3.start,L 3,A 3,T3.fin.length+T3.capF,T3.arcs.length+T3.capA⟩ T3.capF T3.capA (Nat.le_trans (Nat.le_of_eq h3) b3.1) (Nat.le_trans (Nat.le_of_eq g3) b3.2)) [27,28] Tryz.call30 rfl (by simp[h3,g3]) (by simp[h3,g3]) (by simp) ?_
      rintro _ _ ⟨l,r,hl,hr,rfl,rfl⟩
      refine gM ?_
      refine⟨(4,fun j=>if j=3 then l else L j,fun j=>if j=3 then r else A j),[],⟨by rfl,?_,?_⟩,⟨by simp only;omega,by simp[*]⟩,by simp only;omega⟩
      ·simp
      ·simp
     ·refine gN ?_
      refine aO (iC ⟨T4.st,T4.start,L 4,A 4,T4.fin.length+T4.capF,T4.arcs.length+T4.capA⟩ T4.capF T4.capA (Nat.le_trans (Nat.le_of_eq h4) b4.1) (Nat.le_trans (Nat.le_of_eq g4) b4.2)) [30,31] Tryz.call30 rfl (by simp[h4,g4]) (by simp[h4,g4]) (by simp) ?_
      rintro _ _ ⟨l,r,hl,hr,rfl,rfl⟩
      refine gM ?_
      refine⟨(5,fun j=>if j=4 then l else L j,fun j=>if j=4 then r else A j),[],⟨by rfl,?_,?_⟩,⟨by simp only;omega,by simp[*]⟩,by simp only;omega⟩
      ·simp
      ·simp
     ·refine gN ?_
      refine aO (iC ⟨T5.st,T5.start,L 5,A 5,T5.fin.length+T5.capF,T5.arcs.length+T5.capA⟩ T5.capF T5.capA (Nat.le_trans (Nat.le_of_eq h5) b5.1) (Nat.le_trans (Nat.le_of_eq g5) b5.2)) [33,34] Tryz.call30 rfl (by simp[h5,g5]) (by simp[h5,g5]) (by simp) ?_
      rintro _ _ ⟨l,r,hl,hr,rfl,rfl⟩
      refine gM ?_
      refine⟨(6,fun j=>if j=5 then l else L j,fun j=>if j=5 then r else A j),[],⟨by rfl,?_,?_⟩,⟨by simp only;omega,by simp[*]⟩,by simp only;omega⟩
      ·simp
      ·simp
     ·refine gN ?_
      refine aO (iC ⟨T6.st,T6.start,L 6,A 6,T6.fin.length+T6.capF,T6.arcs.length+T6.capA⟩ T6.capF T6.capA (Nat.le_trans (Nat.le_of_eq h6) b6.1) (Nat.le_trans (Nat.le_of_eq g6) b6.2)) [36,37] Tryz.call30 rfl (by simp[h6,g6]) (by simp[h6,g6]) (by simp) ?_
      rintro _ _ ⟨l,r,hl,hr,rfl,rfl⟩
      refine gM ?_
      refine⟨(7,fun j=>if j=6 then l else L j,fun j=>if j=6 then r else A j),[],⟨by rfl,?_,?_⟩,⟨by simp only;omega,by simp[*]⟩,by simp only;omega⟩
      ·simp
      ·simp
     ·refine gN ?_
      refine aO (iC ⟨T7.st,T7.start,L 7,A 7,T7.fin.length+T7.capF,T7.arcs.length+T7.capA⟩ T7.capF T7.capA (Nat.le_trans (Nat.le_of_eq h7) b7.1) (Nat.le_trans (Nat.le_of_eq g7) b7.2)) [39,40] Tryz.call30 rfl (by simp[h7,g7]) (by simp[h7,g7]) (by simp) ?_
      rintro _ _ ⟨l,r,hl,hr,rfl,rfl⟩
      refine gM ?_
      refine⟨(8,fun j=>if j=7 then l else L j,fun j=>if j=7 then r else A j),[],⟨by rfl,?_,?_⟩,⟨by simp only;omega,by simp[*]⟩,by simp only;omega⟩
      ·simp
      ·simp
     ·refine gN ?_
      refine aO (iC ⟨T8.st,T8.start,L 8,A 8,T8.fin.length+T8.capF,T8.arcs.length+T8.capA⟩ T8.capF T8.capA (Nat.le_trans (Nat.le_of_eq h8) b8.1) (Nat.le_trans (Nat.le_of_eq g8) b8.2)) [45,46] Tryz.call30 rfl (by simp[h8,g8]) (by simp[h8,g8]) (by simp) ?_
      rintro _ _ ⟨l,r,hl,hr,rfl,rfl⟩
      refine gM ?_
      refine⟨(9,fun j=>if j=8 then l else L j,fun j=>if j=8 then r else A j),[],⟨by rfl,?_,?_⟩,⟨by simp only;omega,by simp[*]⟩,by simp only;omega⟩
      ·simp
      ·simp
     ·refine gN ?_
      refine aO (iC ⟨T9.st,T9.start,L 9,A 9,T9.fin.length+T9.capF,T9.arcs.length+T9.capA⟩ T9.capF T9.capA (Nat.le_trans (Nat.le_of_eq h9) b9.1) (Nat.le_trans (Nat.le_of_eq g9) b9.2)) [48,49] Tryz.call30 rfl (by simp[h9,g9]) (by simp[h9,g9]) (by simp) ?_
      rintro _ _ ⟨l,r,hl,hr,rfl,rfl⟩
      refine gM ?_
      refine⟨(10,fun j=>if j=9 then l else L j,fun j=>if j=9 then r else A j),[],⟨by rfl,?_,?_⟩,⟨by simp only;omega,by simp[*]⟩,by simp only;omega⟩
      ·simp
      ·simp
    ·refine gN ?_
     refine cF (oD l1 (l1.length+p1) p1 b10) [42] Tryz.call31 ?_
     rintro _ _ ⟨l1',k1,rfl,rfl⟩
     refine gM ?_
     refine cF (oD l2 (l2.length+p2) p2 b11) [43] Tryz.call31 ?_
     rintro _ _ ⟨l2',k2,rfl,rfl⟩
     refine gM ?_
     refine cF (oD l3 (l3.length+p3) p3 b12) [44] Tryz.call31 ?_
     rintro _ _ ⟨l3',k3,rfl,rfl⟩
     refine gM ?_
     refine⟨z+1,[],⟨by rfl,?_,?_⟩,by omega,by omega⟩
     ·simp
     ·simp
  ·refine gO ?_
   exact⟨[],[(6,aF x)],7,.b true,⟨by rfl,trivial,by simp⟩,by simp,rfl,rfl⟩
end Go.Fw
