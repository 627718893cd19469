/-
  Print.
-/
import Derived.Test.YtemhgpoeccbheaaGreatDoorQ08
import Derived.Test.YtemhgpoeccbheaaGreatDoorQ18
import Derived.Test.YtemhgpoeccbheaaGreatDoorQ09
import Derived.Test.YtemhgpoeccbheaaGreatDoorQ06
import Derived.Test.YtemhgpoeccbheaaGreatDoorQ11
import Derived.Test.YtemhgpoeccbheaaGreatDoorQ12
import Derived.Test.YtemhgpoeccbheaaGreatDoorQ14
import Derived.Test.YtemhgpoeccbheaaGreatDoorQ15
set_option linter.unusedSimpArgs false
set_option linter.unusedVariables false
set_option maxRecDepth 100000
set_option maxHeartbeats 16000000
namespace Go.Fw
open Go Go.Proofs
def mN:List UInt8:= [115,116,97,116,101,115,32]
def uV:List UInt8:= [32,115,116,97,114,116,32]
def cE:List UInt8:= [102,105,110,97,108]
def hdL (st sa:Int):List UInt8:=mN++Lib.itoa st++uV++Lib.itoa sa++[10]
def kR (fin:List Int):Nat->List UInt8
 |0=> []
 |k+1=>kR fin k++(if fin.getD k 0≠ -1 then lnF cE [(k:Int),fin.getD k 0]else [])
def jP (a:Arc):List Int:= [a.f,a.i,a.o,a.t,a.w]
def iP (arcs:List Arc):Nat->List UInt8
 |0=> []
 |k+1=>iP arcs k++lnF [] (jP (arcs.getD k aD))
def prF (F:TF):List UInt8:=hdL F.st F.start++kR F.fin F.fin.length++iP F.arcs F.arcs.length
theorem xT {word:List UInt8} {ns:List Int} (hn: ∀n∈ns,0<=n/\n<=9223372036854775807):(lnF word ns).length<=word.length+22*ns.length+1:=by
 have:=Gh hn (word:=word) ns.length (Nat.le_refl _)
 simp only[lnF,List.length_append,List.length_cons,List.length_nil]
 omega
theorem aBH {st sa:Int} (h1:0<=st/\st<=1000) (h2:0<=sa/\sa<=1000):(hdL st sa).length<=100:=by
 have a1:=gU h1.1 (by omega)
 have a2:=gU h2.1 (by omega)
 simp only[hdL,mN,uV,List.length_append,List.length_cons,List.length_nil]
 omega
theorem vY {fin:List Int} (hf: ∀n∈fin,-1<=n/\n<=1000000000) (hl:fin.length<=1000): ∀k:Nat,k<=fin.length->(kR fin k).length<=100*k
 |0,_=>by simp[kR]
 |k+1,hk=>by
  have h1:=vY hf hl k (by omega)
  have h2:=hf _ (aB fin k 0 (by omega))
  simp only[kR,List.length_append]
  split
  ·rename_i h
   have:=xT (word:=cE) (ns:= [(k:Int),fin.getD k 0]) (by
    intro n hn
    simp only[List.mem_cons,List.not_mem_nil,or_false]at hn
    rcases hn with rfl|rfl
    ·omega
    ·omega)
   have h5:cE.length=5:=rfl
   simp only[List.length_cons,List.length_nil]at this
   omega
  ·simp only[List.length_nil];omega
theorem Es {arcs:List Arc} (ha: ∀a∈arcs,∀n∈jP a,0<=n/\n<=9223372036854775807): ∀k:Nat,k<=arcs.length->(iP arcs k).length<=200*k
 |0,_=>by simp[iP]
 |k+1,hk=>by
  have h1:=Es ha k (by omega)
  have h2:=xT (word:= []) (ha _ (aB arcs k aD (by omega)))
  simp only[jP,List.length_cons,List.length_nil]at h2
  simp only[iP,List.length_append]
  unfold jP
  omega
theorem aBg (g:Glo) (hg:gJ g) (F:TF) (hl:F.fin.length<=9223372036854775807):
  Ct Tryz.prog 32 [fV F] [] (hpF F++[(2,aF g)]) 3 (fun v s=>v= .tup [.c (stC (if aL F=0 then prF F else [])),.c (.i (aL F))]/\s=⟨[],[(2,aF g)],3⟩):=by
 refine ctW Tryz.tyOk 10 [27,28,29,43,44,45] Tryz.func32 rfl (by simp) (by simp) (fr:= [(0,fV F)]) rfl ?_
 refine gO ?_
 refine cI (aU F hl) [0,1] Tryz.call35 ?_
 refine gO ?_
 refine⟨fun h=>?_,fun h=>?_⟩
 ·exact⟨[],[(2,aF g)],3,.tup [.c (stC []),.c (.i (aL F))],⟨by rfl,trivial,by simp[aF]⟩,by simp,by rw[if_neg h],rfl⟩
 have hF:=aK h
 have hst:=hF.st
 have hsa:=hF.start
 have hfl:=hF.finl
 have hfin:=hF.fin
 have hal:=hF.arcl
 have i1:=gU (n:=F.st) (by omega) (by omega)
 have i2:=gU (n:=F.start) (by omega) (by omega)
 have hh:=aBH (st:=F.st) (sa:=F.start) (by omega) (by omega)
 have h0:(Lib.itoa F.st).length<=21:=i1
 (conv=>whnf)
 refine cF (iY g hg F.st (by omega) (by omega)) [2] Tryz.call79 ?_
 rintro _ _ ⟨rfl,rfl⟩
 refine gO ?_
 refine cF (iY g hg F.start (by omega) (by omega)) [2] Tryz.call79 ?_
 rintro _ _ ⟨rfl,rfl⟩
 refine gO ?_
 refine aO (Wf (hdL F.st F.start) (by omega)) [4] Tryz.call78 rfl (by simp[hdL,mN,uV,cX]) (by simp[hdL,mN,uV,cX]) (by simp) ?_
 rintro _ _ ⟨rfl,rfl⟩
 simp only[Nat.reduceAdd,Nat.reduceSub]
 generalize hhd:hdL F.st F.start=hd at*
 refine gO ?_
 refine aJ (fun k:Nat=>⟨[(1,.c (.ptr 3 0)),(5,.c (.ptr 4 0)),(27,.c (.sl 0 1 0 F.fin.length F.capF)),(28,.i F.fin.length),(29,.i k)],hpF F++[(2,aF g),(3,.box 25 (aA F)),(4,Hi (hd++kR F.fin k))],5⟩)
  (fun k=>k<=F.fin.length) (fun k=>F.fin.length-k) 0 [] ⟨by rfl,?_,?_⟩ (Nat.zero_le _) ?_
 ·simp
 ·simp[aA,kR]
 ·intro k hk
  have hkl:=vY hfin (by omega) k hk
  (conv=>whnf)
  refine aG (fun hk2=>?_) (fun hk2=>?_)
  ·have hr:=hfin _ (aB F.fin k 0 (by omega))
   have hv:F.fin.getD (0+(k:Int).toNat) EK.int.dflt=F.fin.getD k 0:=by rw[show 0+(k:Int).toNat=k by omega];rfl
   have hs:kR F.fin (k+1)=kR F.fin k++(if F.fin.getD k 0≠ -1 then lnF cE [(k:Int),F.fin.getD k 0]else []):=rfl
   generalize hx:kR F.fin k=x at*
   refine gO ?_
   refine⟨fun h=>?_,fun h=>?_⟩
   ·rw[hv]at h
    have hln: ∀n∈ [(k:Int),F.fin.getD k 0],0<=n/\n<=9223372036854775807:=by
     intro n hn
     simp only[List.mem_cons,List.not_mem_nil,or_false]at hn
     rcases hn with rfl|rfl
     ·omega
     ·omega
    have hll:=xT (word:=cE) hln
    have h5:cE.length=5:=rfl
    simp only[List.length_cons,List.length_nil]at hll
    rw[if_pos h]at hs
    (conv=>whnf)
    rw[hv]
    refine aO (Zh g hg cE [(k:Int),F.fin.getD k 0] 2 (by omega) (by simp) hln) [5,2] Tryz.call80 rfl (by simp[cE]) (by simp[cE]) (by simp) ?_
    rintro _ _ ⟨rfl,rfl⟩
    generalize hln2:lnF cE [(k:Int),F.fin.getD k 0]=ln at*
    refine gO ?_
    have hbl:(hd++x).length+ln.length<=140737488355328:=by rw[List.length_append];omega
    refine cF (Pi (hd++x) ln hbl) [4] Tryz.call78 ?_
    rintro _ _ ⟨rfl,rfl⟩
    refine gO ?_
    refine⟨k+1,[],⟨by rfl,?_,?_⟩,by omega,by omega⟩
    ·simp
    ·simp[aA,hs]
   ·rw[hv]at h
    rw[if_neg (fun h2=>h2 h),List.append_nil]at hs
    (conv=>whnf)
    refine⟨k+1,[],⟨by rfl,?_,?_⟩,by omega,by omega⟩
    ·simp
    ·simp[aA,hs]
  ·have e:k=F.fin.length:=by omega
   subst e
   generalize hfx:kR F.fin F.fin.length=fx at*
   refine gO ?_
   refine aJ (fun k:Nat=>⟨[(1,.c (.ptr 3 0)),(5,.c (.ptr 4 0)),(43,.c (.sl 1 5 0 F.arcs.length F.capA)),(44,.i F.arcs.length),(45,.i k)],hpF F++[(2,aF g),(3,.box 25 (aA F)),(4,Hi (hd++fx++iP F.arcs k))],5⟩)
    (fun k=>k<=F.arcs.length) (fun k=>F.arcs.length-k) 0 [] ⟨by rfl,?_,?_⟩ (Nat.zero_le _) ?_
   ·simp
   ·simp[aA,iP]
   ·intro k hk
    have harc: ∀a∈F.arcs,∀n∈jP a,0<=n/\n<=9223372036854775807:=by
     intro a ha n hn
     obtain⟨q1,q2,q3,q4,q5,q6,q7,q8⟩:=hF.arc a ha
     simp only[jP,List.mem_cons,List.not_mem_nil,or_false]at hn
     rcases hn with rfl|rfl|rfl|rfl|rfl<;>omega
    have hal2:=Es harc k hk
    (conv=>whnf)
    refine aG (fun hk2=>?_) (fun hk2=>?_)
    ·have hln:=harc _ (aB F.arcs k aD (by omega))
     have hv:F.arcs.getD (0+(k:Int).toNat) EK.arc.dflt=F.arcs.getD k aD:=by rw[show 0+(k:Int).toNat=k by omega];rfl
     have hs:iP F.arcs (k+1)=iP F.arcs k++lnF [] (jP (F.arcs.getD k aD)):=rfl
     have hll:=xT (word:= []) hln
     have h5:(jP (F.arcs.getD k aD)).length=5:=rfl
     simp only[List.length_nil]at hll
     generalize hx:iP F.arcs k=x at*
     generalize hae:F.arcs.getD k aD=a at*
     refine gO ?_
     rw[hv]
     refine aO (Zh g hg [] (jP a) 5 (by simp) (by omega) hln) [6,2] Tryz.call80 rfl (by simp[jP]) (by simp[jP]) (by simp) ?_
     rintro _ _ ⟨rfl,rfl⟩
     generalize hln2:lnF [] (jP a)=ln at*
     refine gO ?_
     have hbl:(hd++fx++x).length+ln.length<=140737488355328:=by
      have:=vY hfin (by omega) F.fin.length (Nat.le_refl _)
      rw[hfx]at this
      rw[List.length_append,List.length_append]
      omega
     refine cF (Pi (hd++fx++x) ln hbl) [4] Tryz.call78 ?_
     rintro _ _ ⟨rfl,rfl⟩
     refine gO ?_
     refine⟨k+1,[],⟨by rfl,?_,?_⟩,by omega,by omega⟩
     ·simp
     ·simp[aA,hs]
    ·have e:k=F.arcs.length:=by omega
     subst e
     have hne:hd++fx++iP F.arcs F.arcs.length≠ []:=by
      rw[<-hhd]
      simp[hdL,mN]
     have hpr:prF F=hd++fx++iP F.arcs F.arcs.length:=by
      unfold prF
      rw[hhd,hfx]
     refine gO ?_
     refine cF (Wu _ hne) [4] Tryz.call81 ?_
     rintro _ _ ⟨rfl,rfl⟩
     refine gO ?_
     exact⟨[],[(2,aF g)],3,.tup [.c (stC (hd++fx++iP F.arcs F.arcs.length)),.c (.i 0)],⟨by rfl,trivial,by simp[aF]⟩,by simp,by rw[if_pos h,hpr,h],rfl⟩
def lA (x:List UInt8):Option Int:=match Lib.atoiAll x with
 | .ok n=>if x.length<=10/\0<=n/\Lib.itoa n=x then some n else none
 |_=>none
def dG:List (List UInt8)->Option (List Int)
 | []=>some []
 |x::l=>match lA x,dG l with
  |some n,some ns=>some (n::ns)
  |_,_=>none
theorem fI (x:List UInt8) (l:List (List UInt8)):dG (x::l)=match lA x,dG l with
 |some n,some ns=>some (n::ns)
 |_,_=>none:=rfl
theorem zE (x:List UInt8): ∀l:List (List UInt8),dG (l++[x])=match dG l,lA x with
  |some ns,some n=>some (ns++[n])
  |_,_=>none
 | []=>by
   rw[List.nil_append,fI]
   cases lA x<;>rfl
 |y::l=>by
  rw[List.cons_append,fI,fI,zE x l]
  cases lA y<;>cases dG l<;>cases lA x<;>rfl
theorem Dc {x:List UInt8} (h:lA x=none): ∀l:List (List UInt8),x∈l->dG l=none
 |y::l,hx=>by
  rw[fI]
  rcases List.mem_cons.1 hx with rfl|hx
  ·rw[h]
  ·rw[Dc h l hx]
   cases lA y<;>rfl
theorem lW: ∀ {l:List (List UInt8)} {ns:List Int},dG l=some ns->ns.length=l.length
 | [],ns,h=>by cases h;rfl
 |x::l,ns,h=>by
  rw[fI]at h
  cases hx:lA x with
  |none=>rw[hx]at h;cases h
  |some n=>
   cases hl:dG l with
   |none=>rw[hx,hl]at h;cases h
   |some ms=>rw[hx,hl]at h;cases h;simp[lW hl]
theorem Yw {x:List UInt8} {n:Int} (h:lA x=some n):0<=n/\n<=9223372036854775807:=by
 unfold lA at h
 split at h
 ·rename_i m hm
  split at h
  ·rename_i hc
   cases h
   exact⟨hc.2.1,(Lib.atoiAll_bounds hm).2⟩
  ·cases h
 ·cases h
theorem vK: ∀ {l:List (List UInt8)} {ns:List Int},dG l=some ns-> ∀n∈ns,0<=n/\n<=9223372036854775807
 | [],ns,h=>by cases h;simp
 |x::l,ns,h=>by
  rw[fI]at h
  cases hx:lA x with
  |none=>rw[hx]at h;cases h
  |some n=>
   cases hl:dG l with
   |none=>rw[hx,hl]at h;cases h
   |some ms=>
    rw[hx,hl]at h
    cases h
    intro m hm
    rcases List.mem_cons.1 hm with rfl|hm
    ·exact Yw hx
    ·exact vK hl m hm
theorem rU (l:List (List UInt8)) (i:Nat):(l.map bs).getD i EK.str.dflt=bs (l.getD i []):=by
 simp only[List.getD_eq_getElem?_getD,List.getElem?_map]
 cases l[i]?<;>rfl
def Sh (g:Glo) (l:List (List UInt8)) (many:Int) (v:SV) (s:S):Prop:=
 (∃ns sp,dG l=some ns/\(l.length:Int)=many/\v= .tup [.c (.sl 2 1 0 ns.length (ns.length+sp)),.c (.b true)]/\s=⟨[],[(1,aF g),(2,.arr true 3 .int ns sp)],3⟩)\/
 ((dG l=none\/(l.length:Int)≠many)/\v= .tup [.c (.v (.slice none 0 0)),.c (.b false)]/\s=⟨[],[(1,aF g)],2⟩)
theorem vM (g:Glo) (hg:gJ g) (LL:List (List UInt8)) (lo len cap:Nat) (many:Int) (hlo:lo+len<=LL.length) (hm:0<many) (hsz: ∀x∈LL,x.length<=1000000) (hL:LL.length<=1000000):
  Ct Tryz.prog 134 [.c (.sl 0 1 lo len cap),.i many] [] [(0,.arr false 9 .str (LL.map bs) 0),(1,aF g)] 2 (Sh g ((LL.drop lo).take len) many):=by
 have hll:((LL.drop lo).take len).length=len:=by simp;omega
 refine ctW Tryz.tyOk 11 [15,16,17] Tryz.func134 rfl (by simp) (by simp) (fr:= [(0,.c (.sl 0 1 lo len cap)),(1,.i many)]) rfl ?_
 refine gO ?_
 refine⟨fun h=>?_,fun h=>?_⟩
 ·exact⟨[],[(1,aF g)],2,.tup [.c (.v (.slice none 0 0)),.c (.b false)],⟨by rfl,trivial,by simp[aF]⟩,by simp,.inr ⟨.inr (by rw[hll];exact h),rfl,rfl⟩⟩
 (conv=>whnf)
 refine aJ (fun z:Nat×List Int×Nat=>⟨[(0,.c (.sl 0 1 lo len cap)),(6,.c (.sl 2 1 0 z.2.1.length (z.2.1.length+z.2.2))),(15,.c (.sl 0 1 lo len cap)),(16,.i len),(17,.i z.1)],[(0,.arr false 9 .str (LL.map bs) 0),(1,aF g),(2,.arr true 3 .int z.2.1 z.2.2)],3⟩)
  (fun z=>z.1<=len/\dG ((LL.drop lo).take z.1)=some z.2.1) (fun z=>len-z.1) (0,[],0) [(2,none)] ⟨by rfl,?_,?_⟩ ⟨Nat.zero_le _,by simp[dG]⟩ ?_
 ·simp
 ·simp[aF,cT]
 ·rintro⟨k,ns,sp⟩ ⟨hk,hns⟩
  simp only at hk hns⊢
  (conv=>whnf)
  refine aG (fun hk2=>?_) (fun hk2=>?_)
  ·have hv:(LL.map bs).getD (lo+(k:Int).toNat) EK.str.dflt=bs (LL.getD (lo+k) []):=by rw[show lo+(k:Int).toNat=lo+k by omega,rU]
   have hx1:=hsz _ (aB LL (lo+k) [] (by omega))
   have hnl:=lW hns
   have hxm:LL.getD (lo+k) []∈(LL.drop lo).take len:=by
    rw[List.mem_iff_getElem?]
    refine⟨k,?_⟩
    rw[List.getElem?_take_of_lt (by omega),List.getElem?_drop,List.getD_eq_getElem?_getD,List.getElem?_eq_getElem (by omega)]
    rfl
   have hsn:(LL.drop lo).take (k+1)=(LL.drop lo).take k++[LL.getD (lo+k) []]:=by
    rw[List.take_add_one,List.getElem?_drop,List.getD_eq_getElem?_getD,List.getElem?_eq_getElem (by omega)]
    rfl
   have hkl:((LL.drop lo).take k).length=k:=by simp;omega
   generalize hx:LL.getD (lo+k) []=x at*
   have bad:lA x=none->dG ((LL.drop lo).take len)=none:=fun h=>Dc h _ hxm
   have hbx:=aZ x
   refine gO ?_
   rw[hv]
   refine cF (aDg g hg x hx1) [1] Tryz.call152 ?_
   rintro _ _ ⟨n,e,rfl,hi,rfl⟩
   rcases hi with⟨hok,rfl⟩|⟨hno,t,a,rfl⟩
   ·have hnb:=Lib.atoiAll_bounds hok
    have hnum:lA x=if x.length<=10/\0<=n/\Lib.itoa n=x then some n else none:=by unfold lA;rw[hok]
    refine gO ?_
    refine⟨fun h=>?_,fun h=>⟨fun h=>?_,fun h=>?_⟩⟩
    ·exact⟨[],[(1,aF g)],2,.tup [.c (.v (.slice none 0 0)),.c (.b false)],⟨by rfl,trivial,by simp[aF]⟩,by simp,.inr ⟨.inl (bad (by rw[hnum,if_neg (fun c=>by omega)])),rfl,rfl⟩⟩
    ·exact⟨[],[(1,aF g)],2,.tup [.c (.v (.slice none 0 0)),.c (.b false)],⟨by rfl,trivial,by simp[aF]⟩,by simp,.inr ⟨.inl (bad (by rw[hnum,if_neg (fun c=>by omega)])),rfl,rfl⟩⟩
    (conv=>whnf)
    refine cF (iY g hg n hnb.1 hnb.2) [1] Tryz.call79 ?_
    rintro _ _ ⟨rfl,rfl⟩
    refine gO ?_
    refine⟨fun h=>?_,fun h=>?_⟩
    ·rw[bE,bE]at h
     (conv=>whnf)
     exact⟨[],[(1,aF g)],2,.tup [.c (.v (.slice none 0 0)),.c (.b false)],⟨by rfl,trivial,by simp[aF]⟩,by simp,.inr ⟨.inl (bad (by rw[hnum,if_neg (fun c=>h c.2.2)])),rfl,rfl⟩⟩
    ·rw[bE,bE]at h
     have hsome:lA x=some n:=by rw[hnum,if_pos ⟨by omega,by omega,h⟩]
     (conv=>whnf)
     intro sp2
     refine gN ?_
     refine⟨(k+1,ns++[n],sp2),[(2,some 4)],⟨by rfl,?_,?_⟩,⟨by simp only;omega,?_⟩,by simp only;omega⟩
     ·simp[List.length_append]
     ·simp[aF,lOp.appL,sub]
     ·simp only
      rw[hsn,zE,hns,hsome]
   ·have hnone:lA x=none:=by
     unfold lA
     split
     ·rename_i m hm;exact absurd hm (hno m)
     ·rfl
    refine gO ?_
    exact⟨[],[(1,aF g)],2,.tup [.c (.v (.slice none 0 0)),.c (.b false)],⟨by rfl,trivial,by simp[aF]⟩,by simp,.inr ⟨.inl (bad hnone),rfl,rfl⟩⟩
  ·have e:k=len:=by omega
   subst e
   refine gO ?_
   exact⟨[],[(1,aF g),(2,.arr true 3 .int ns sp)],3,.tup [.c (.sl 2 1 0 ns.length (ns.length+sp)),.c (.b true)],⟨by rfl,trivial,by simp[aF]⟩,by simp,.inl ⟨ns,sp,hns,by rw[hll];exact h,rfl,rfl⟩⟩
structure RV where
 st:Int
 sa:Int
 fin:List Int
 arcs:List Arc
 last:Int
def rdC (R:RV) (i j sp sq:Nat):List SC:= [.i R.st,.i R.sa,.sl i 1 0 R.fin.length (R.fin.length+sp),.sl j 5 0 R.arcs.length (R.arcs.length+sq),.i R.last,.b (!R.arcs.isEmpty)]
abbrev rdH (R:RV) (i j sp sq:Nat):List (Nat×SO):= [(0,.box 119 (rdC R i j sp sq)),(i,.arr true 3 .int R.fin sp),(j,.arr true 55 .arc R.arcs sq)]
def pR (g:Glo) (o:Option RV) (v:SV) (s:S):Prop:= ∃R sp sq,s=⟨[],rdH R 5 6 sp sq++[(4,aF g)],7⟩/\((o=some R/\v= .b true)\/(o=none/\v= .b false))
def nth (ns:List Int) (i:Nat):Int:=ns.getD i 0
def Ox (R:RV) (l:List (List UInt8)):Option RV:=if l.length=5 then(dG l).map fun ns=> {R with arcs:=R.arcs++[⟨nth ns 0,nth ns 1,nth ns 2,nth ns 3,nth ns 4⟩]}else none
def Ah (R:RV) (l:List (List UInt8)):Option RV:=if(l.drop 1).length=2 then(dG (l.drop 1)).bind fun ns=>if R.arcs=[]/\R.last<nth ns 0/\nth ns 0<R.st then some {R with fin:=R.fin.set (nth ns 0).toNat (nth ns 1),last:=nth ns 0}else none else none
def sR:List UInt8:= [115,116,97,116,101,115]
def yD:List UInt8:= [115,116,97,114,116]
def mB (l:List (List UInt8)):Option RV:=if l.length=4/\l.getD 0 []=sR/\l.getD 2 []=yD then(dG [l.getD 1 [],l.getD 3 []]).bind fun ns=>if 1<=nth ns 0/\nth ns 0<=200 then some ⟨nth ns 0,nth ns 1,List.replicate (nth ns 0).toNat (-1),[],-1⟩else none else none
theorem aDh (g:Glo) (hg:gJ g) (R:RV) (sp sq:Nat) (LL:List (List UInt8)) (cap:Nat) (hsz: ∀x∈LL,x.length<=1000000) (hL:LL.length<=1000000) (ha:R.arcs.length<=1000000):
  Ct Tryz.prog 84 [.c (.ptr 0 0),.c (.sl 3 1 0 LL.length cap)] [] (rdH R 1 2 sp sq++[(3,.arr false 9 .str (LL.map bs) 0),(4,aF g)]) 5 (pR g (Ox R LL)):=by
 have hnum:=vM g hg LL 0 LL.length cap 5 (by omega) (by omega) hsz hL
 rw[List.drop_zero,List.take_length]at hnum
 refine ctW Tryz.tyOk 8 [] Tryz.func84 rfl (by simp) (by simp) (fr:= [(0,.c (.ptr 0 0)),(1,.c (.sl 3 1 0 LL.length cap))]) rfl ?_
 refine gO ?_
 refine cF (hnum) [3,4] Tryz.call134 ?_
 rintro v s (⟨ns,sp3,hns,hl5,rfl,rfl⟩|⟨hbad,rfl,rfl⟩)
 ·have hnl:=lW hns
  refine gO ?_
  intro sq2
  refine gN ?_
  refine⟨[(5,some 1),(6,some 7)],rdH {R with arcs:=R.arcs++[⟨nth ns 0,nth ns 1,nth ns 2,nth ns 3,nth ns 4⟩]} 5 6 sp sq2++[(4,aF g)],7,.b true,⟨by rfl,trivial,?_⟩,by simp,{R with arcs:=R.arcs++[⟨nth ns 0,nth ns 1,nth ns 2,nth ns 3,nth ns 4⟩]},sp,sq2,rfl,.inl ⟨?_,rfl⟩⟩
  ·simp[rdC,lOp.appL,sub,nth,EK.dflt]
  ·unfold Ox
   rw[if_pos (by omega),hns]
   rfl
 ·refine gO ?_
  refine⟨[(5,some 1),(6,some 2)],rdH R 5 6 sp sq++[(4,aF g)],7,.b false,⟨by rfl,trivial,by simp[aF,rdC]⟩,by simp,R,sp,sq,rfl,.inr ⟨?_,rfl⟩⟩
  unfold Ox
  split
  ·rcases hbad with h|h
   ·rw[h];rfl
   ·omega
  ·rfl
theorem aBL (g:Glo) (hg:gJ g) (R:RV) (sp sq:Nat) (LL:List (List UInt8)) (hsz: ∀x∈LL,x.length<=1000000) (hL:LL.length<=1000000) (h1:1<=LL.length) (hfl:(R.fin.length:Int)=R.st):
  Ct Tryz.prog 86 [.c (.ptr 0 0),.c (.sl 3 1 0 LL.length LL.length)] [] (rdH R 1 2 sp sq++[(3,.arr false 9 .str (LL.map bs) 0),(4,aF g)]) 5 (pR g (Ah R LL)):=by
 have hdl:(LL.drop 1).length=LL.length-1:=by simp
 have hnum: ∀lo len cap:Nat,lo+len<=LL.length->(LL.drop lo).take len=LL.drop 1->Ct Tryz.prog 134 [SV.c (SC.sl 0 1 lo len cap),SV.i 2] [] [(0,SO.arr false 9 EK.str (List.map bs LL) 0),(1,aF g)] 2 (Sh g (LL.drop 1) 2):=fun lo len cap h e=>by
  have:=vM g hg LL lo len cap 2 h (by omega) hsz hL
  rwa [e]at this
 refine ctW Tryz.tyOk 8 [] Tryz.func86 rfl (by simp) (by simp) (fr:= [(0,.c (.ptr 0 0)),(1,.c (.sl 3 1 0 LL.length LL.length))]) rfl ?_
 refine gO ?_
 refine⟨fun h=>?_,fun h=>?_⟩
 ·refine cF (hnum (0+Int.toNat 1) ((LL.length:Int)-1).toNat (LL.length-Int.toNat 1) (by omega) (by rw[show 0+Int.toNat 1=1 from rfl,List.take_of_length_le (by omega)])) [3,4] Tryz.call134 ?_
  rintro v s (⟨ns,sp3,hns,hl5,rfl,rfl⟩|⟨hbad,rfl,rfl⟩)
  ·have hnl:=lW hns
   have hn0:=vK hns _ (aB ns 0 0 (by omega))
   have hff:Ah R LL=if R.arcs=[]/\R.last<nth ns 0/\nth ns 0<R.st then some {R with fin:=R.fin.set (nth ns 0).toNat (nth ns 1),last:=nth ns 0}else none:=by
    unfold Ah
    rw[if_pos (by omega),hns]
    rfl
   have hn0':0<=nth ns 0:=hn0.1
   have ret: ∀k,Ah R LL=none->k=SV.b false->pR g (Ah R LL) k ⟨[],rdH R 5 6 sp sq++[(4,aF g)],7⟩:=fun k e1 e2=>⟨R,sp,sq,rfl,.inr ⟨e1,e2⟩⟩
   refine gO ?_
   refine⟨fun h=>?_,fun h=>⟨fun h=>?_,fun h=>⟨fun h=>?_,fun h=>⟨?_,?_,?_⟩⟩⟩⟩
   ·have hne: ¬R.arcs=[]:=fun c=>by rw[c]at h;cases h
    exact⟨[(5,some 1),(6,some 2)],rdH R 5 6 sp sq++[(4,aF g)],7,.b false,⟨by rfl,trivial,by simp[aF,rdC]⟩,by simp,ret _ (by rw[hff,if_neg (fun c=>hne c.1)]) rfl⟩
   ·have h2:nth ns 0<=R.last:=h
    (conv=>whnf)
    exact⟨[(5,some 1),(6,some 2)],rdH R 5 6 sp sq++[(4,aF g)],7,.b false,⟨by rfl,trivial,by simp[aF,rdC]⟩,by simp,ret _ (by rw[hff,if_neg (fun c=>by omega)]) rfl⟩
   ·have h2:nth ns 0>=R.st:=h
    (conv=>whnf)
    exact⟨[(5,some 1),(6,some 2)],rdH R 5 6 sp sq++[(4,aF g)],7,.b false,⟨by rfl,trivial,by simp[aF,rdC]⟩,by simp,ret _ (by rw[hff,if_neg (fun c=>by omega)]) rfl⟩
   ·have h2: ¬nth ns 0>=R.st:=h
    show 0<=nth ns 0/\nth ns 0<R.fin.length/\0+R.fin.length<=R.fin.length
    omega
   ·have h2: ¬nth ns 0>=R.st:=h
    show 0+(nth ns 0).toNat<R.fin.length
    omega
   ·rename_i he h2
    have h3': ¬nth ns 0>=R.st:=h
    have h2': ¬nth ns 0<=R.last:=h2
    have hem:R.arcs=[]:=by simpa using he
    refine gN ?_
    refine⟨[(5,some 1),(6,some 2)],rdH {R with fin:=R.fin.set (nth ns 0).toNat (nth ns 1),last:=nth ns 0} 5 6 sp sq++[(4,aF g)],7,.b true,⟨by rfl,trivial,?_⟩,by simp,{R with fin:=R.fin.set (nth ns 0).toNat (nth ns 1),last:=nth ns 0},sp,sq,rfl,.inl ⟨by rw[hff,if_pos ⟨hem,by omega,by omega⟩],rfl⟩⟩
    simp[rdC,nth,EK.dflt]
  ·refine gO ?_
   refine⟨[(5,some 1),(6,some 2)],rdH R 5 6 sp sq++[(4,aF g)],7,.b false,⟨by rfl,trivial,by simp[aF,rdC]⟩,by simp,R,sp,sq,rfl,.inr ⟨?_,rfl⟩⟩
   unfold Ah
   split
   ·rcases hbad with h|h
    ·rw[h];rfl
    ·omega
   ·rfl
 ·(conv=>whnf)
  refine cF (hnum 0 ((LL.length:Int)-1).toNat (LL.length-Int.toNat 1) (by omega) (by rw[List.drop_zero,List.take_eq_nil_iff.2 (.inl (by omega)),List.drop_eq_nil_of_le (by omega)])) [3,4] Tryz.call134 ?_
  rintro v s (⟨ns,sp3,hns,hl5,rfl,rfl⟩|⟨hbad,rfl,rfl⟩)
  ·omega
  ·refine gO ?_
   refine⟨[(5,some 1),(6,some 2)],rdH R 5 6 sp sq++[(4,aF g)],7,.b false,⟨by rfl,trivial,by simp[aF,rdC]⟩,by simp,R,sp,sq,rfl,.inr ⟨?_,rfl⟩⟩
   unfold Ah
   rw[if_neg (by omega)]
theorem aCX (g:Glo) (hg:gJ g) (R:RV) (sp sq:Nat) (LL:List (List UInt8)) (cap:Nat) (hsz: ∀x∈LL,x.length<=1000000) (hra:R.arcs=[]):
  Ct Tryz.prog 85 [.c (.ptr 0 0),.c (.sl 3 1 0 LL.length cap)] [] (rdH R 1 2 sp sq++[(3,.arr false 9 .str (LL.map bs) 0),(4,aF g)]) 5 (pR g (mB LL)):=by
 have hv: ∀i:Nat,(LL.map bs).getD i EK.str.dflt=bs (LL.getD i []):=fun i=>rU LL i
 refine ctW Tryz.tyOk 7 [] Tryz.func85 rfl (by simp) (by simp) (fr:= [(0,.c (.ptr 0 0)),(1,.c (.sl 3 1 0 LL.length cap))]) rfl ?_
 have v0:(LL.map bs).getD (0+Int.toNat 0) EK.str.dflt=bs (LL.getD 0 []):=hv 0
 have v1:(LL.map bs).getD (0+Int.toNat 1) EK.str.dflt=bs (LL.getD 1 []):=hv 1
 have v2:(LL.map bs).getD (0+Int.toNat 2) EK.str.dflt=bs (LL.getD 2 []):=hv 2
 have v3:(LL.map bs).getD (0+Int.toNat 3) EK.str.dflt=bs (LL.getD 3 []):=hv 3
 have ret: ∀k,mB LL=none->k=SV.b false->pR g (mB LL) k ⟨[],rdH R 5 6 sp sq++[(4,aF g)],7⟩:=fun k e1 e2=>⟨R,sp,sq,rfl,.inr ⟨e1,e2⟩⟩
 refine gO ?_
 refine⟨fun h=>?_,fun h=>⟨fun h=>?_,fun h=>⟨fun h=>?_,fun h=>?_⟩⟩⟩
 ·exact⟨[(5,some 1),(6,some 2)],rdH R 5 6 sp sq++[(4,aF g)],7,.b false,⟨by rfl,trivial,by simp[aF,rdC]⟩,by simp,ret _ (by unfold mB;rw[if_neg (fun c=>h (by omega))]) rfl⟩
 ·rw[v0,bE]at h
  (conv=>whnf)
  exact⟨[(5,some 1),(6,some 2)],rdH R 5 6 sp sq++[(4,aF g)],7,.b false,⟨by rfl,trivial,by simp[aF,rdC]⟩,by simp,ret _ (by unfold mB;rw[if_neg (fun c=>h c.2.1)]) rfl⟩
 ·rw[v2,bE]at h
  (conv=>whnf)
  exact⟨[(5,some 1),(6,some 2)],rdH R 5 6 sp sq++[(4,aF g)],7,.b false,⟨by rfl,trivial,by simp[aF,rdC]⟩,by simp,ret _ (by unfold mB;rw[if_neg (fun c=>h c.2.2)]) rfl⟩
 rename_i h4 h0
 rw[v0,bE]at h0
 rw[v2,bE]at h
 have hhd:mB LL=(dG [LL.getD 1 [],LL.getD 3 []]).bind fun ns=>if 1<=nth ns 0/\nth ns 0<=200 then some ⟨nth ns 0,nth ns 1,List.replicate (nth ns 0).toNat (-1),[],-1⟩else none:=by
  unfold mB
  rw[if_pos ⟨by omega,h0,h⟩]
 have z1:=hsz _ (aB LL 1 [] (by omega))
 have z3:=hsz _ (aB LL 3 [] (by omega))
 generalize hA:LL.getD 1 []=A at*
 generalize hB:LL.getD 3 []=B at*
 refine gO ?_
 rw[v1,v3]
 have hnum:=vM g hg [A,B] 0 2 2 2 (by simp) (by omega) (by simp;exact⟨z1,z3⟩) (by simp)
 rw[List.drop_zero,List.take_of_length_le (by simp)]at hnum
 refine cF (hnum) [5,4] Tryz.call134 ?_
 rintro v s (⟨ns,sp3,hns,hl5,rfl,rfl⟩|⟨hbad,rfl,rfl⟩)
 ·have hnl:=lW hns
  simp only[List.length_cons,List.length_nil]at hnl
  rw[hns]at hhd
  have hn0:=vK hns _ (aB ns 0 0 (by omega))
  have q0:ns.getD (0+Int.toNat 0) EK.int.dflt=nth ns 0:=rfl
  have q1:ns.getD (0+Int.toNat 1) EK.int.dflt=nth ns 1:=rfl
  refine gO ?_
  refine cI (kE (ns.getD (0+Int.toNat 0) EK.int.dflt) 1 200) [] Tryz.call88 ?_
  refine gO ?_
  refine⟨fun h=>?_,fun h=>?_⟩
  ·rw[q0]at h
   (conv=>whnf)
   exact⟨[(5,some 1),(6,some 2)],rdH R 5 6 sp sq++[(4,aF g)],7,.b false,⟨by rfl,trivial,by simp[aF,rdC]⟩,by simp,ret _ (by rw[hhd];exact if_neg (fun c=>by omega)) rfl⟩
  rw[q0]at h
  refine gN ?_
  refine cF (iG (-1) (ns.getD (0+Int.toNat 0) EK.int.dflt) 1 hn0.1 (by omega)) [7] Tryz.call111 ?_
  rintro _ _ ⟨rfl,rfl⟩
  refine gN ?_
  refine⟨[(5,some 8),(6,none)],rdH ⟨nth ns 0,nth ns 1,List.replicate (nth ns 0).toNat (-1),[],-1⟩ 5 6 0 0++[(4,aF g)],7,.b true,⟨by rfl,trivial,?_⟩,by simp,⟨nth ns 0,nth ns 1,List.replicate (nth ns 0).toNat (-1),[],-1⟩,0,0,rfl,.inl ⟨by rw[hhd];exact if_pos h,rfl⟩⟩
  simp[rdC,hra,cT,nth,EK.dflt]
 ·refine gO ?_
  refine⟨[(5,some 1),(6,some 2)],rdH R 5 6 sp sq++[(4,aF g)],7,.b false,⟨by rfl,trivial,by simp[aF,rdC]⟩,by simp,ret _ ?_ rfl⟩
  rcases hbad with c|c
  ·rw[hhd,c];rfl
  ·simp at c
def iE (n:Nat) (R:RV) (l:List (List UInt8)):Option RV:=if n=1 then mB l else if l.getD 0 []=cE then Ah R l else Ox R l
def kG:Nat->RV->List (List UInt8)->Sum RV Nat
 |n,_,[]=> .inr n
 |n,R,[x]=>if n≠1/\x=[]then .inl R else .inr n
 |n,R,x::y::r=>match iE n R (spl 32 x)with
  |some R'=>kG (n+1) R' (y::r)
  |none=> .inr n
def nY:RV:=⟨0,0,[],[],0⟩
def tfR (R:RV):TF:=⟨R.st,R.sa,R.fin,R.arcs,0,0⟩
def lP (s:List UInt8):Option RV×Int×Int:=if 100000<s.length then(none,0,2)else match kG 1 nY (spl 10 s)with
 | .inr n=>(none,n,1)
 | .inl R=>if aL (tfR R)=0 then(some R,0,0)else(none,0,aL (tfR R))
def wM (g:Glo) (o:Option RV×Int×Int) (v:SV) (s:S):Prop:= ∃R sp sq,R=o.1.getD nY/\v= .tup [.agg [.i R.st,.i R.sa,.sl 1 1 0 R.fin.length (R.fin.length+sp),.sl 2 5 0 R.arcs.length (R.arcs.length+sq)],.c (.i o.2.1),.c (.i o.2.2)]/\
 s=⟨[],[(0,aF g),(1,.arr true 3 .int R.fin sp),(2,.arr true 55 .arc R.arcs sq)],3⟩
theorem Pw (c:UInt8): ∀(k:Nat) (l:List UInt8),l.length<=k->(spl c l).length<=l.length+1/\ ∀x∈spl c l,x.length<=l.length
 |k,[],_=>by simp[spl]
 |0,x::l,h=>by simp at h
 |k+1,x::l,h=>by
  obtain⟨h1,h2⟩:=Pw c k l (by simpa using h)
  rw[oE]
  split
  ·refine⟨by simp only[List.length_cons];omega,fun y hy=>?_⟩
   rcases List.mem_cons.1 hy with rfl|hy
   ·simp
   ·have:=h2 y hy;simp only[List.length_cons];omega
  ·cases hs:spl c l with
   |nil=>exact absurd hs (Mh c l)
   |cons a r=>
    rw[hs]at h1 h2
    refine⟨by simp only[List.length_cons]at h1⊢;omega,fun y hy=>?_⟩
    rcases List.mem_cons.1 hy with rfl|hy
    ·have:=h2 a (by simp);simp only[List.length_cons];omega
    ·have:=h2 y (by simp[hy]);simp only[List.length_cons];omega
theorem Kt (c:UInt8): ∀l:List UInt8,(cR c l).1.length<=l.length
 | []=>by simp[cR]
 |x::l=>by
  have:=Kt c l
  rw[En]
  split
  ·simp
  ·simp only[List.length_cons];omega
abbrev Sp:List SC:= [.i 0,.i 0,.v (.slice none 0 0),.v (.slice none 0 0)]
structure aB9 (n:Nat) (R:RV) (s:List UInt8):Prop where
 one:n=1->R.arcs=[]
 fin:n≠1->(R.fin.length:Int)=R.st
 cnt:R.arcs.length+s.length<=100001
 num:n+s.length<=100001
 pos:1<=n
 flen:R.fin.length<=1000
theorem Wo {n:Nat} {R R':RV} {s s':List UInt8} {l:List (List UInt8)} (h:aB9 n R s) (hs:s'.length<s.length) (ht:iE n R l=some R'):aB9 (n+1) R' s':=by
 have h1:=h.cnt
 have h2:=h.num
 have h3:=h.pos
 have h4:=h.flen
 unfold iE at ht
 split at ht
 ·unfold mB at ht
  split at ht
  ·cases hn:dG [l.getD 1 [],l.getD 3 []]with
   |none=>rw[hn]at ht;cases ht
   |some ns=>
    rw[hn]at ht
    simp only[Option.bind_some]at ht
    split at ht
    ·cases ht
     exact⟨fun c=>by omega,fun _=>by simp only[List.length_replicate];omega,by simp only[List.length_nil];omega,by omega,by omega,by simp only[List.length_replicate];omega⟩
    ·cases ht
  ·cases ht
 ·rename_i hn1
  have hf:=h.fin hn1
  split at ht
  ·unfold Ah at ht
   split at ht
   ·cases hn:dG (l.drop 1)with
    |none=>rw[hn]at ht;cases ht
    |some ns=>
     rw[hn]at ht
     simp only[Option.bind_some]at ht
     split at ht
     ·cases ht
      exact⟨fun c=>by omega,fun _=>by simp only[List.length_set];exact hf,by simp only;omega,by omega,by omega,by simp only[List.length_set];exact h4⟩
     ·cases ht
   ·cases ht
  ·unfold Ox at ht
   split at ht
   ·cases hn:dG l with
    |none=>rw[hn]at ht;cases ht
    |some ns=>
     rw[hn]at ht
     cases ht
     exact⟨fun c=>by omega,fun _=>hf,by simp only[List.length_append,List.length_cons,List.length_nil];omega,by omega,by omega,h4⟩
   ·cases ht
theorem Qh {n:Nat} {R:RV} {s:List UInt8} (hc:(cR 10 s).2.2=true):kG n R (spl 10 s)=match iE n R (spl 32 (cR 10 s).1)with
  |some R'=>kG (n+1) R' (spl 10 (cR 10 s).2.1)
  |none=> .inr n:=by
 rw[sY 10 s,hc,if_pos rfl]
 cases h:spl 10 (cR 10 s).2.1 with
 |nil=>exact absurd h (Mh _ _)
 |cons y r=>rfl
theorem Te {n:Nat} {R:RV} {s:List UInt8} (hc:(cR 10 s).2.2=false) (h:n=1\/s≠ []):kG n R (spl 10 s)= .inr n:=by
 rw[sY 10 s,hc,if_neg (by simp),(qL 10 s hc).1]
 unfold kG
 rw[if_neg]
 rintro⟨h1,h2⟩
 rcases h with h|h
 ·exact h1 h
 ·exact h h2
theorem Xq {n:Nat} {R:RV} (h:n≠1):kG n R (spl 10 [])= .inl R:=by
 unfold spl kG
 rw[if_pos ⟨h,rfl⟩]
theorem iI (g:Glo) {o:Option RV×Int×Int} {n e:Int} (h:o=(none,n,e)):wM g o (.tup [.agg [.i 0,.i 0,.sl 1 1 0 0 0,.sl 2 5 0 0 0],.c (.i n),.c (.i e)]) ⟨[],[(0,aF g),(1,.arr true 3 .int [] 0),(2,.arr true 55 .arc [] 0)],3⟩:=by
 subst h
 exact⟨nY,0,0,rfl,rfl,rfl⟩
theorem aBj (g:Glo) (hg:gJ g) (s0:List UInt8) (hs0:s0.length<=9223372036854775807):
  Ct Tryz.prog 34 [stV s0] [] [(0,aF g)] 1 (wM g (lP s0)):=by
 have hbs:=aZ s0
 refine ctW Tryz.tyOk 13 [] Tryz.func34 rfl (by simp) (by simp) (fr:= [(0,stV s0)]) rfl ?_
 refine gO ?_
 refine⟨fun h=>?_,fun h=>?_⟩
 ·refine⟨[(1,none),(2,none)],[(0,aF g),(1,.arr true 3 .int [] 0),(2,.arr true 55 .arc [] 0)],3,.tup [.agg [.i 0,.i 0,.sl 1 1 0 0 0,.sl 2 5 0 0 0],.c (.i 0),.c (.i 2)],⟨by rfl,trivial,by simp[aF,cT]⟩,by simp,iI g ?_⟩
  unfold lP
  rw[if_pos (by omega)]
 (conv=>whnf)
 refine aJ (fun z:(List UInt8×Nat)×RV×Nat×Nat=>⟨[(0,stV z.1.1),(2,.c (.ptr 1 0)),(5,.c (.ptr 2 0)),(6,.i z.1.2)],[(0,aF g),(1,.box 25 Sp),(2,.box 119 (rdC z.2.1 3 4 z.2.2.1 z.2.2.2)),(3,.arr true 3 .int z.2.1.fin z.2.2.1),(4,.arr true 55 .arc z.2.1.arcs z.2.2.2)],5⟩)
  (fun z=>aB9 z.1.2 z.2.1 z.1.1/\kG z.1.2 z.2.1 (spl 10 z.1.1)=kG 1 nY (spl 10 s0)) (fun z=>z.1.1.length) ((s0,1),nY,0,0) [(3,none),(4,none)] ⟨by rfl,?_,?_⟩ ⟨⟨fun _=>rfl,fun c=>absurd rfl c,by simp only[nY,List.length_nil];omega,by simp only;omega,Nat.le_refl _,Nat.zero_le _⟩,rfl⟩ ?_
 ·simp
 ·simp[aF,cT,rdC,nY]
 ·rintro⟨⟨s,n⟩,R,sp,sq⟩ ⟨hR,hrun⟩
  simp only at hR hrun⊢
  have hcnt:=hR.cnt
  have hnum:=hR.num
  have hsl:s.length<=100001:=by omega
  have hX:=Kt 10 s
  have hlt:=Ar 10 s
  have hsp:=Pw 32 _ (cR 10 s).1 (Nat.le_refl _)
  have hsp1:1<=(spl 32 (cR 10 s).1).length:=List.length_pos_iff.2 (Mh _ _)
  have hsz: ∀x∈spl 32 (cR 10 s).1,x.length<=1000000:=fun x hx=>by have:=hsp.2 x hx;omega
  have bad:(n=1\/s≠ [])->((!(cR 10 s).2.2)=true\/iE n R (spl 32 (cR 10 s).1)=none)->lP s0=(none,(n:Int),1):=by
   intro hn hb
   have hr:kG 1 nY (spl 10 s0)= .inr n:=by
    rw[<-hrun]
    cases hc:(cR 10 s).2.2 with
    |false=>exact Te hc hn
    |true=>
     rw[Qh hc]
     rcases hb with hb|hb
     ·rw[hc]at hb;cases hb
     ·rw[hb]
   unfold lP
   rw[if_neg (by omega),hr]
  have next: ∀R',(!(cR 10 s).2.2)=false->iE n R (spl 32 (cR 10 s).1)=some R'->(cR 10 s).2.1.length<s.length/\aB9 (n+1) R' (cR 10 s).2.1/\kG (n+1) R' (spl 10 (cR 10 s).2.1)=kG 1 nY (spl 10 s0):=by
   intro R' hc ht
   have hc:(cR 10 s).2.2=true:=by simpa using hc
   refine⟨hlt hc,Wo hR (hlt hc) ht,?_⟩
   rw[<-hrun,Qh hc,ht]
  generalize hx:(cR 10 s).1=x at*
  generalize hre:(cR 10 s).2.1=rest at*
  generalize hok:(cR 10 s).2.2=ok at*
  have hcut:=aDP g hg s 10 (by omega)
  rw[hx,hre,hok]at hcut
  refine gO ?_
  refine⟨fun h=>?_,fun h=>⟨fun h=>?_,fun h=>?_⟩⟩
  ·have hn1:n=1:=by omega
   have hta:iE n R (spl 32 x)=mB (spl 32 x):=by unfold iE;rw[if_pos hn1]
   (conv=>whnf)
   refine cF (hcut) [0] Tryz.call82 ?_
   rintro _ _ ⟨rfl,rfl⟩
   refine gO ?_
   refine cF (Pt g hg x 32 (by omega)) [0] Tryz.call83 ?_
   rintro _ _ ⟨rfl,rfl⟩
   refine gO ?_
   refine fun h=>⟨fun h=>?_,fun h=>?_⟩
   ·refine⟨[(1,none),(2,none)],[(0,aF g),(1,.arr true 3 .int [] 0),(2,.arr true 55 .arc [] 0)],3,.tup [.agg [.i 0,.i 0,.sl 1 1 0 0 0,.sl 2 5 0 0 0],.c (.i n),.c (.i 1)],⟨by rfl,trivial,by simp[aF,cT]⟩,by simp,iI g (bad (.inl hn1) (.inl h))⟩
   (conv=>whnf)
   refine aO (aCX g hg R sp sq (spl 32 x) (spl 32 x).length hsz (hR.one hn1)) [2,3,4,5,0] Tryz.call85 rfl (by simp[rdC]) (by simp[rdC]) (by simp) ?_
   rintro v s' ⟨R',sp',sq',rfl,(⟨ht,rfl⟩|⟨ht,rfl⟩)⟩
   ·obtain⟨n1,n2,n3⟩:=next R' h (by rw[hta];exact ht)
    have hnb:=n2.num
    refine gN ?_
    refine⟨((rest,n+1),R',sp',sq'),[(3,some 6),(4,some 7)],⟨by rfl,?_,?_⟩,⟨n2,n3⟩,n1⟩
    ·simp
    ·simp[rdC]
   ·refine gO ?_
    refine⟨[(1,none),(2,none)],[(0,aF g),(1,.arr true 3 .int [] 0),(2,.arr true 55 .arc [] 0)],3,.tup [.agg [.i 0,.i 0,.sl 1 1 0 0 0,.sl 2 5 0 0 0],.c (.i n),.c (.i 1)],⟨by rfl,trivial,by simp[aF,cT]⟩,by simp,iI g (bad (.inl hn1) (.inr (by rw[hta];exact ht)))⟩
  ·rename_i hn0
   have hn1:n≠1:=fun c=>hn0 (by omega)
   rw[bE]at h
   have hse:s≠ []:=h
   (conv=>whnf)
   refine cF (hcut) [0] Tryz.call82 ?_
   rintro _ _ ⟨rfl,rfl⟩
   refine gO ?_
   refine cF (Pt g hg x 32 (by omega)) [0] Tryz.call83 ?_
   rintro _ _ ⟨rfl,rfl⟩
   have hv:((spl 32 x).map bs).getD (0+Int.toNat 0) EK.str.dflt=bs ((spl 32 x).getD 0 []):=rU _ 0
   refine gO ?_
   refine fun h=>⟨fun h=>⟨fun h=>?_,fun h=>?_⟩,fun h=>⟨fun h=>?_,fun h=>?_⟩⟩
   ·refine⟨[(1,none),(2,none)],[(0,aF g),(1,.arr true 3 .int [] 0),(2,.arr true 55 .arc [] 0)],3,.tup [.agg [.i 0,.i 0,.sl 1 1 0 0 0,.sl 2 5 0 0 0],.c (.i n),.c (.i 1)],⟨by rfl,trivial,by simp[aF,cT]⟩,by simp,iI g (bad (.inr hse) (.inl h))⟩
   ·have hta:iE n R (spl 32 x)=Ah R (spl 32 x):=by
     rename_i _ hq
     rw[hv,bE]at hq
     unfold iE
     rw[if_neg hn1];exact if_pos hq
    (conv=>whnf)
    refine aO (aBL g hg R sp sq (spl 32 x) hsz (by omega) hsp1 (hR.fin hn1)) [2,3,4,5,0] Tryz.call86 rfl (by simp[rdC]) (by simp[rdC]) (by simp) ?_
    rintro v s' ⟨R',sp',sq',rfl,(⟨ht,rfl⟩|⟨ht,rfl⟩)⟩
    ·obtain⟨n1,n2,n3⟩:=next R' h (by rw[hta];exact ht)
     have hnb:=n2.num
     refine gN ?_
     refine⟨((rest,n+1),R',sp',sq'),[(3,some 6),(4,some 7)],⟨by rfl,?_,?_⟩,⟨n2,n3⟩,n1⟩
     ·simp
     ·simp[rdC]
    ·refine gO ?_
     refine⟨[(1,none),(2,none)],[(0,aF g),(1,.arr true 3 .int [] 0),(2,.arr true 55 .arc [] 0)],3,.tup [.agg [.i 0,.i 0,.sl 1 1 0 0 0,.sl 2 5 0 0 0],.c (.i n),.c (.i 1)],⟨by rfl,trivial,by simp[aF,cT]⟩,by simp,iI g (bad (.inr hse) (.inr (by rw[hta];exact ht)))⟩
   ·refine⟨[(1,none),(2,none)],[(0,aF g),(1,.arr true 3 .int [] 0),(2,.arr true 55 .arc [] 0)],3,.tup [.agg [.i 0,.i 0,.sl 1 1 0 0 0,.sl 2 5 0 0 0],.c (.i n),.c (.i 1)],⟨by rfl,trivial,by simp[aF,cT]⟩,by simp,iI g (bad (.inr hse) (.inl h))⟩
   ·have hta:iE n R (spl 32 x)=Ox R (spl 32 x):=by
     rename_i _ hq
     rw[hv,bE]at hq
     unfold iE
     rw[if_neg hn1];exact if_neg hq
    (conv=>whnf)
    refine aO (aDh g hg R sp sq (spl 32 x) (spl 32 x).length hsz (by omega) (by omega)) [2,3,4,5,0] Tryz.call84 rfl (by simp[rdC]) (by simp[rdC]) (by simp) ?_
    rintro v s' ⟨R',sp',sq',rfl,(⟨ht,rfl⟩|⟨ht,rfl⟩)⟩
    ·obtain⟨n1,n2,n3⟩:=next R' h (by rw[hta];exact ht)
     have hnb:=n2.num
     refine gN ?_
     refine⟨((rest,n+1),R',sp',sq'),[(3,some 6),(4,some 7)],⟨by rfl,?_,?_⟩,⟨n2,n3⟩,n1⟩
     ·simp
     ·simp[rdC]
    ·refine gO ?_
     refine⟨[(1,none),(2,none)],[(0,aF g),(1,.arr true 3 .int [] 0),(2,.arr true 55 .arc [] 0)],3,.tup [.agg [.i 0,.i 0,.sl 1 1 0 0 0,.sl 2 5 0 0 0],.c (.i n),.c (.i 1)],⟨by rfl,trivial,by simp[aF,cT]⟩,by simp,iI g (bad (.inr hse) (.inr (by rw[hta];exact ht)))⟩
  ·rename_i hn0
   have hn1:n≠1:=fun c=>hn0 (by omega)
   rw[bE]at h
   have hse:s=[]:=h
   have hp:lP s0=if aL (tfR R)=0 then(some R,0,0)else(none,0,aL (tfR R)):=by
    unfold lP
    rw[if_neg (by omega),<-hrun,hse,Xq hn1]
   have hfl:R.fin.length<=9223372036854775807:=by have:=hR.flen;omega
   have hF:aL ⟨R.st,R.sa,R.fin,R.arcs,R.fin.length+sp,R.arcs.length+sq⟩=aL (tfR R):=rfl
   generalize hfe:aL (tfR R)=fe at*
   refine gO ?_
   refine aO (aU ⟨R.st,R.sa,R.fin,R.arcs,R.fin.length+sp,R.arcs.length+sq⟩ hfl) [3,4] Tryz.call35 rfl (by simp[rdC]) (by simp[rdC]) (by simp) ?_
   rintro _ _ ⟨rfl,rfl⟩
   refine gO ?_
   refine⟨fun h=>?_,fun h=>?_⟩
   ·rw[hF]at h
    (conv=>whnf)
    rw[hF]
    refine⟨[(1,none),(2,none)],[(0,aF g),(1,.arr true 3 .int [] 0),(2,.arr true 55 .arc [] 0)],3,.tup [.agg [.i 0,.i 0,.sl 1 1 0 0 0,.sl 2 5 0 0 0],.c (.i 0),.c (.i fe)],⟨by rfl,trivial,by simp[aF,cT]⟩,by simp,iI g (by rw[hp,if_neg h])⟩
   ·rw[hF]at h
    rw[if_pos h]at hp
    (conv=>whnf)
    refine⟨[(1,some 3),(2,some 4)],[(0,aF g),(1,.arr true 3 .int R.fin sp),(2,.arr true 55 .arc R.arcs sq)],3,.tup [.agg [.i R.st,.i R.sa,.sl 1 1 0 R.fin.length (R.fin.length+sp),.sl 2 5 0 R.arcs.length (R.arcs.length+sq)],.c (.i 0),.c (.i 0)],⟨by rfl,trivial,by simp[aF]⟩,by simp,R,sp,sq,by rw[hp];rfl,by rw[hp],rfl⟩
def pF (F:TF) (T:Nat->Nat->Int) (i:Nat) (l:List Int):Nat->List Int
 |0=>l
 |k+1=>if T i k≠ -1/\F.fin.getD k 0≠ -1 then(pF F T i l k).set i (plL ((pF F T i l k).getD i 0) (T i k+F.fin.getD k 0))else pF F T i l k
def pFs (F:TF) (T:Nat->Nat->Int) (n:Nat):Nat->List Int
 |0=>List.replicate n (-1)
 |i+1=>pF F T i (pFs F T n i) n
def pA1 (T:Nat->Nat->Int) (a:Arc) (l:List Arc):Nat->List Arc
 |0=>l
 |i+1=>if a.i≠0/\T i a.f.toNat≠ -1 then pA1 T a l i++[⟨i,a.i,a.o,a.t,T i a.f.toNat+a.w⟩]else pA1 T a l i
def pAs (F:TF) (T:Nat->Nat->Int) (n:Nat):Nat->List Arc
 |0=> []
 |k+1=>pA1 T (F.arcs.getD k aD) (pAs F T n k) n
theorem Nc (F:TF) (T:Nat->Nat->Int) (i:Nat) (l:List Int): ∀k,(pF F T i l k).length=l.length
 |0=>rfl
 |k+1=>by
  have:=Nc F T i l k
  unfold pF
  split
  ·rw[List.length_set,this]
  ·exact this
theorem tK (F:TF) (T:Nat->Nat->Int) (n:Nat): ∀i,(pFs F T n i).length=n
 |0=>by simp[pFs]
 |i+1=>by
  unfold pFs
  rw[Nc,tK F T n i]
theorem Fu (T:Nat->Nat->Int) (a:Arc) (l:List Arc): ∀i,(pA1 T a l i).length<=l.length+i
 |0=>Nat.le_refl _
 |i+1=>by
  have:=Fu T a l i
  unfold pA1
  split
  ·simp only[List.length_append,List.length_cons,List.length_nil];omega
  ·omega
theorem xM (F:TF) (T:Nat->Nat->Int) (n:Nat): ∀k,(pAs F T n k).length<=n*k
 |0=>by simp[pAs]
 |k+1=>by
  have h1:=xM F T n k
  have h2:=Fu T (F.arcs.getD k aD) (pAs F T n k) n
  unfold pAs
  rw[Nat.mul_add,Nat.mul_one]
  omega
theorem aBi (F:TF) (n:Nat) (hst:F.st=n) (hn:1<=n/\n<=30) (hfl:F.fin.length=n) (hal:F.arcs.length<=3000) (hfin: ∀e∈F.fin,-1<=e/\e<=1000000000) (ha: ∀a∈F.arcs,(0<=a.f/\a.f<n)/\(0<=a.t/\a.t<n)/\0<=a.w/\a.w<=1000000000):
  Ct Tryz.prog 64 [fV F] [] (hpF F) 2 (fun v s=> ∃zs sq,wL (pAs F (sZ F n) n F.arcs.length) zs/\v= .a (.agg [.i F.st,.i F.start,.sl 2 1 0 (pFs F (sZ F n) n n).length (pFs F (sZ F n) n n).length,.sl 3 5 0 zs.length (zs.length+sq)])/\s=⟨[],[(2,.arr true 3 .int (pFs F (sZ F n) n n) 0),(3,.arr true 55 .arc zs sq)],4⟩):=by
 refine ctW Tryz.tyOk 13 [24,25,26,31,32,33,68,69,70,75,76] Tryz.func64 rfl (by simp) (by simp) (fr:= [(0,fV F)]) rfl ?_
 refine gO ?_
 refine cF (Sy F n hst hn hfl (by omega) ha) [0,1] Tryz.call110 ?_
 rintro _ _ ⟨rows,m,sp,htab,hT,rfl,rfl⟩
 generalize sZ F n=T at*
 have hst2:F.st.toNat=n:=by omega
 have hrl:=htab.len
 refine gD ?_
 try simp only[Nat.reduceAdd,Nat.reduceSub]
 refine jO (fun _:Unit=>⟨[(1,.c (.ptr 2 0)),(2,.c (.ptr 3 0)),(3,.c (.sl 4 1 0 n (n+sp))),(4,.c (.ptr 7 0))],hpF F++[(2,.box 25 (aA F)),(3,.box 25 Sp),(4,.arr true 22 .sli rows sp),(5,.pool 3 .int m),(6,.arr true 3 .int (List.replicate n (-1)) 0),(7,.box 25 [.i F.st,.i F.start,.sl 6 1 0 n n,.v (.slice none 0 0)])],8⟩) (fun _=>True) ?_ ?_
 ·refine gO ?_
  refine⟨⟨?_,?_⟩,?_⟩
  all_goals
   (conv=>whnf)
   try simp only[Nat.reduceAdd,Nat.reduceSub]
  ·refine cF (iG (-1) F.st 1 (by omega) (by omega)) [6] Tryz.call111 ?_
   rintro _ _ ⟨rfl,rfl⟩
   rw[hst2]
   refine gD ?_
   try simp only[Nat.reduceAdd,Nat.reduceSub]
   refine⟨(),[(6,some 7),(7,some 8)],⟨by rfl,?_,?_⟩,trivial⟩
   ·simp
   ·simp[aA,EK.dflt]
  ·refine cF (iG (-1) F.st 1 (by omega) (by omega)) [6] Tryz.call111 ?_
   rintro _ _ ⟨rfl,rfl⟩
   rw[hst2]
   refine gD ?_
   try simp only[Nat.reduceAdd,Nat.reduceSub]
   refine⟨(),[(6,some 8),(7,some 7)],⟨by rfl,?_,?_⟩,trivial⟩
   ·simp
   ·simp[aA,EK.dflt]
  ·refine cF (iG (-1) F.st 1 (by omega) (by omega)) [7] Tryz.call111 ?_
   rintro _ _ ⟨rfl,rfl⟩
   rw[hst2]
   refine gD ?_
   try simp only[Nat.reduceAdd,Nat.reduceSub]
   refine⟨(),[(6,some 8),(7,some 6)],⟨by rfl,?_,?_⟩,trivial⟩
   ·simp
   ·simp[aA,EK.dflt]
 rintro _-
 refine gD ?_
 try simp only[Nat.reduceAdd,Nat.reduceSub]
 refine aJ (fun z:Nat=>⟨[(1,.c (.ptr 2 0)),(2,.c (.ptr 3 0)),(3,.c (.sl 4 1 0 n (n+sp))),(4,.c (.ptr 7 0)),(24,.c (.sl 4 1 0 n (n+sp))),(25,.i n),(26,.i z)],hpF F++[(2,.box 25 (aA F)),(3,.box 25 Sp),(4,.arr true 22 .sli rows sp),(5,.pool 3 .int m),(6,.arr true 3 .int (pFs F T n z) 0),(7,.box 25 [.i F.st,.i F.start,.sl 6 1 0 n n,.v (.slice none 0 0)])],8⟩)
  (fun z=>z<=n) (fun z=>n-z) 0 [] ⟨by rfl,?_,?_⟩ (Nat.zero_le _) ?_
 ·simp
 ·simp[aA]
  rfl
 ·intro i hi
  have hpl:=tK F T n i
  have hps:pFs F T n (i+1)=pF F T i (pFs F T n i) n:=rfl
  generalize hP0:pFs F T n i=P0 at*
  replace hP0:=hP0.symm
  (conv=>whnf)
  refine aG (fun hi2=>?_) (fun hi2=>?_)
  ·obtain⟨b1,b2,b3,b4⟩:=htab.at' (x:=(i:Int)) (by omega) (by omega)
   refine gN ?_
   generalize rows.getD (0+(i:Int).toNat) EK.sli.dflt=y at*
   refine aJ (fun z:Nat=>⟨[(1,.c (.ptr 2 0)),(2,.c (.ptr 3 0)),(3,.c (.sl 4 1 0 n (n+sp))),(4,.c (.ptr 7 0)),(24,.c (.sl 4 1 0 n (n+sp))),(25,.i n),(26,.i i),(5,.i i),(31,.c (.h y)),(32,.i n),(33,.i z)],hpF F++[(2,.box 25 (aA F)),(3,.box 25 Sp),(4,.arr true 22 .sli rows sp),(5,.pool 3 .int m),(6,.arr true 3 .int (pF F T i P0 z) 0),(7,.box 25 [.i F.st,.i F.start,.sl 6 1 0 n n,.v (.slice none 0 0)])],8⟩)
    (fun z=>z<=n) (fun z=>n-z) 0 [] ⟨by rfl,?_,?_⟩ (Nat.zero_le _) ?_
   ·simp[b2]
   ·simp[aA]
    rfl
   ·intro k hk
    have hp1:=Nc F T i P0 k
    have hp2:pF F T i P0 (k+1)=if T i k≠ -1/\F.fin.getD k 0≠ -1 then(pF F T i P0 k).set i (plL ((pF F T i P0 k).getD i 0) (T i k+F.fin.getD k 0))else pF F T i P0 k:=rfl
    have hp3:k=n->pFs F T n (i+1)=pF F T i P0 k:=fun e=>by rw[hps,e]
    generalize pF F T i P0 k=P at*
    (conv=>whnf)
    refine aG (fun hk2=>?_) (fun hk2=>?_)
    ·have v1:(aM m y.a).getD (k:Int).toNat EK.int.dflt=T i k:=b4 (k:Int) (by omega) (by omega)
     have w1:=hT i k (by omega) (by omega)
     have f1:=hfin _ (aB F.fin k 0 (by omega))
     have f2:F.fin.getD (0+(k:Int).toNat) EK.int.dflt=F.fin.getD k 0:=by rw[show 0+(k:Int).toNat=k by omega];rfl
     refine gO ?_
     refine⟨fun h=>⟨fun h=>?_,fun h=>?_⟩,fun h=>?_⟩
     ·rename_i hq
      (conv=>whnf)
      try simp only[Nat.reduceAdd,Nat.reduceSub]
      have u1:T i k≠ -1:=by rw[<-v1];exact hq
      have u2:F.fin.getD k 0≠ -1:=by rw[<-f2];exact h
      rw[if_pos ⟨u1,u2⟩,<-v1,<-f2]at hp2
      refine cF (zA (P.getD (0+(i:Int).toNat) EK.int.dflt) ((aM m y.a).getD (k:Int).toNat EK.int.dflt+F.fin.getD (0+(k:Int).toNat) EK.int.dflt)) [] Tryz.call112 ?_
      rintro _ _ ⟨rfl,rfl⟩
      refine gO ?_
      refine⟨k+1,[],⟨by rfl,?_,?_⟩,by omega,by omega⟩
      ·simp
      ·simp[aA]
       rw[hp2]
       simp[EK.dflt]
     ·refine⟨k+1,[],⟨by rfl,?_,?_⟩,by omega,by omega⟩
      ·simp
      ·simp[aA]
       exact hp2.trans (if_neg fun c=>c.2 (by rw[<-f2];exact h))
     ·(conv=>whnf)
      refine⟨k+1,[],⟨by rfl,?_,?_⟩,by omega,by omega⟩
      ·simp
      ·simp[aA]
       exact hp2.trans (if_neg fun c=>c.1 (by rw[<-v1];exact h))
    ·refine gO ?_
     refine⟨i+1,[],⟨by rfl,?_,?_⟩,by omega,by omega⟩
     ·simp
     ·simp[aA]
      exact hp3 (by omega)
  ·have e:i=n:=by omega
   have eP:P0=pFs F T n n:=hP0.trans (by rw[e])
   clear hps hpl
   rw[eP]
   refine gN ?_
   refine aJ (fun z:Nat×Nat=>⟨[(1,.c (.ptr 2 0)),(2,.c (.ptr 3 0)),(3,.c (.sl 4 1 0 n (n+sp))),(4,.c (.ptr 7 0)),(68,.c (.sl 1 5 0 F.arcs.length F.capA)),(69,.i F.arcs.length),(70,.i z.1)],hpF F++[(2,.box 25 (aA F)),(3,.box 25 Sp),(4,.arr true 22 .sli rows sp),(5,.pool 3 .int m),(6,.arr true 3 .int (pFs F T n n) 0),(7,.box 25 [.i F.st,.i F.start,.sl 6 1 0 n n,.sl 8 5 0 (pAs F T n z.1).length ((pAs F T n z.1).length+z.2)]),(8,.arr true 55 .arc (pAs F T n z.1) z.2)],9⟩)
    (fun z=>z.1<=F.arcs.length) (fun z=>F.arcs.length-z.1) (0,0) [(8,none)] ⟨by rfl,?_,?_⟩ (Nat.zero_le _) ?_
   ·simp
   ·simp[aA,cT,pAs]
   ·rintro⟨k,sq⟩ hk
    simp only at hk⊢
    have hpl:=xM F T n k
    have hln:n*k<=90000:=Nat.le_trans (Nat.mul_le_mul hn.2 (show k<=3000 by omega)) (by omega)
    have hps:pAs F T n (k+1)=pA1 T (F.arcs.getD k aD) (pAs F T n k) n:=rfl
    have hp3:k=F.arcs.length->pAs F T n F.arcs.length=pAs F T n k:=fun e=>by rw[e]
    generalize pAs F T n k=L0 at*
    (conv=>whnf)
    refine aG (fun hk2=>?_) (fun hk2=>?_)
    ·have hA:F.arcs.getD (0+(k:Int).toNat) EK.arc.dflt=F.arcs.getD k aD:=by rw[show 0+(k:Int).toNat=k by omega];rfl
     obtain⟨⟨a1,a2⟩,⟨a3,a4⟩,a5,a6⟩:=ha _ (aB F.arcs k aD (by omega))
     rw[<-hA]at a1 a2 a3 a4 a5 a6 hps
     clear hA
     refine gN ?_
     generalize F.arcs.getD (0+(k:Int).toNat) EK.arc.dflt=a at*
     refine aJ (fun z:Nat×Nat=>⟨[(1,.c (.ptr 2 0)),(2,.c (.ptr 3 0)),(3,.c (.sl 4 1 0 n (n+sp))),(4,.c (.ptr 7 0)),(68,.c (.sl 1 5 0 F.arcs.length F.capA)),(69,.i F.arcs.length),(70,.i k),(10,.c (.ptr 9 0)),(75,.i n),(76,.i z.1)],hpF F++[(2,.box 25 (aA F)),(3,.box 25 Sp),(4,.arr true 22 .sli rows sp),(5,.pool 3 .int m),(6,.arr true 3 .int (pFs F T n n) 0),(7,.box 25 [.i F.st,.i F.start,.sl 6 1 0 n n,.sl 8 5 0 (pA1 T a L0 z.1).length ((pA1 T a L0 z.1).length+z.2)]),(8,.arr true 55 .arc (pA1 T a L0 z.1) z.2),(9,.box 55 [.i a.f,.i a.i,.i a.o,.i a.t,.i a.w])],10⟩)
      (fun z=>z.1<=n) (fun z=>n-z.1) (0,sq) [] ⟨by rfl,?_,?_⟩ (Nat.zero_le _) ?_
     ·simp
     ·simp[aA]
      exact⟨rfl,rfl⟩
     ·rintro⟨j,sr⟩ hj
      simp only at hj⊢
      have hp1:=Fu T a L0 j
      have hp2:pA1 T a L0 (j+1)=if a.i≠0/\T j a.f.toNat≠ -1 then pA1 T a L0 j++[⟨j,a.i,a.o,a.t,T j a.f.toNat+a.w⟩]else pA1 T a L0 j:=rfl
      have hp4:j=n->pAs F T n (k+1)=pA1 T a L0 j:=fun e=>by rw[hps,e]
      generalize pA1 T a L0 j=L at*
      (conv=>whnf)
      refine aG (fun hj2=>?_) (fun hj2=>?_)
      ·obtain⟨b1,b2,b3,b4⟩:=htab.at' (x:=(j:Int)) (by omega) (by omega)
       have v1:(aM m (rows.getD (0+(j:Int).toNat) EK.sli.dflt).a).getD a.f.toNat EK.int.dflt=T j a.f.toNat:=b4 _ a1 a2
       have w1:=hT j a.f.toNat (by omega) (by omega)
       refine gO ?_
       refine⟨fun h=>⟨fun h=>?_,fun h=>?_⟩,fun h=>?_⟩
       ·rename_i hq
        rw[if_pos ⟨hq,by rw[<-v1];exact h⟩,<-v1]at hp2
        refine gI fun _=>?_
        rename_i sp2
        refine⟨(j+1,sp2),[(8,some 11)],⟨by rfl,?_,?_⟩,by simp only;omega,by simp only;omega⟩
        ·simp
        ·simp[aA,hp2]
         exact(aV L _ _ rfl).symm
       ·rw[if_neg (fun c=>c.2 (by rw[<-v1];exact h))]at hp2
        refine gO ?_
        refine⟨(j+1,sr),[],⟨by rfl,?_,?_⟩,by simp only;omega,by simp only;omega⟩
        ·simp
        ·simp[aA,hp2]
       ·rw[if_neg (fun c=>c.1 h)]at hp2
        refine gO ?_
        refine⟨(j+1,sr),[],⟨by rfl,?_,?_⟩,by simp only;omega,by simp only;omega⟩
        ·simp
        ·simp[aA,hp2]
      ·refine gO ?_
       refine⟨(k+1,sr),[],⟨by rfl,?_,?_⟩,by simp only;omega,by simp only;omega⟩
       ·simp
       ·simp[aA,hp4 (by omega)]
    ·refine gO ?_
     refine cF (oH L0 (L0.length+sq) sq (by omega) (by omega)) [8] Tryz.call62 ?_
     rintro _ _ ⟨zs,sq',rfl,rfl,hzl,hso⟩
     rw[<-hp3 (by omega)]at hso
     refine gO ?_
     rw[hzl]
     exact⟨[(2,some 6),(3,some 8)],[(2,.arr true 3 .int (pFs F T n n) 0),(3,.arr true 55 .arc zs sq')],4,.a (.agg [.i F.st,.i F.start,.sl 2 1 0 n n,.sl 3 5 0 zs.length (zs.length+sq')]),⟨by rfl,trivial,by simp⟩,by simp,zs,sq',hso,by rw[tK],rfl⟩
theorem Nb (a:Arc):Ct Tryz.prog 113 [dK a] [] [] 0 (Is 0 (.b (decide (a.w>1000000000)))):=by
 refine ctW Tryz.tyOk 3 [] Tryz.func113 rfl (by simp) (by simp) (fr:= [(0,dK a)]) rfl ?_
 refine gO ?_
 all_goals
  (conv=>whnf)
  refine aQ.is ?_
  simp_all[eqV,eqA,eqC]
theorem Na (x:Int):Ct Tryz.prog 114 [.i x] [] [] 0 (Is 0 (.b (decide (x>1000000000)))):=by
 refine ctW Tryz.tyOk 3 [] Tryz.func114 rfl (by simp) (by simp) (fr:= [(0,.i x)]) rfl ?_
 refine gO ?_
 all_goals
  (conv=>whnf)
  refine aQ.is ?_
  simp_all[eqV,eqA,eqC]
theorem Tu (F:TF) (h1:F.arcs.length<=9223372036854775807) (h2:F.fin.length<=9223372036854775807):Ct Tryz.prog 65 [fV F] [] (hpF F) 2 (Is 2 (.b (eM F.arcs F.fin))):=by
 refine ctW Tryz.tyOk 3 [] Tryz.func65 rfl (by simp) (by simp) (fr:= [(0,fV F)]) rfl ?_
 refine gO ?_
 refine cI (dF F.arcs F.capA (by omega) 113 (fun a=>decide (a.w>1000000000)) Nb Tryz.call113) [1] Tryz.call67 ?_
 unfold eM
 generalize (F.arcs.any fun a=>decide (a.w>1000000000))=x
 cases x with
 |true=>
  refine gO ?_
  refine aQ.is ?_
  simp
 |false=>
  refine gO ?_
  refine cI (gB F.fin F.capF (by omega) 114 (fun a=>decide (a>1000000000)) Na Tryz.call114) [0] Tryz.call89 ?_
  refine gO ?_
  refine aQ.is ?_
  simp
def aB7 (F:TF):SV:= .tup [.c (.b (aL F==0&&pO F)),.c (.i (aL F))]
theorem Pd (F:TF) (hl:F.fin.length<=9223372036854775807):Ct Tryz.prog 40 [fV F] [] (hpF F) 2 (Is 2 (aB7 F)):=by
 by_cases h:aL F=0
 ·have hF:=aK h
  have hal:=hF.arcl
  unfold aB7
  rw[h]
  refine ctW Tryz.tyOk 5 [] Tryz.func40 rfl (by simp) (by simp) (fr:= [(0,fV F)]) rfl ?_
  refine gO ?_
  refine cI (aU F hl) [0,1] Tryz.call35 ?_
  rw[h]
  refine gO ?_
  refine cI (wG F (by omega)) [0,1] Tryz.call63 ?_
  refine gO ?_
  refine aQ.is ?_
  simp
 ·have hb:(aL F==0)=false:=by simpa using h
  unfold aB7
  rw[hb]
  refine ctW Tryz.tyOk 5 [] Tryz.func40 rfl (by simp) (by simp) (fr:= [(0,fV F)]) rfl ?_
  refine gO ?_
  refine cI (aU F hl) [0,1] Tryz.call35 ?_
  refine gO fun h=>?_
  refine aQ.is ?_
  simp
def tI (F:TF):Int:=if aL F≠0 then aL F else if pO F=true then(if 30<F.st then 2 else 0)else 4
def oU (F:TF):List Int:=pFs F (sZ F F.st.toNat) F.st.toNat F.st.toNat
def aCJ (F:TF):List Arc:=pAs F (sZ F F.st.toNat) F.st.toNat F.arcs.length
def Sg (F:TF) (v:SV) (s:S):Prop:=
 (tI F≠0/\v= .tup [.agg aW,.c (.i (tI F))]/\s=⟨[],[],2⟩)\/
 (tI F=0/\ ∃zs sq,wL (aCJ F) zs/\
  ((eM zs (oU F)=true/\v= .tup [.agg aW,.c (.i 2)]/\s=⟨[],[],2⟩)\/
   (eM zs (oU F)=false/\v= .tup [.agg [.i F.st,.i F.start,.sl 2 1 0 (oU F).length (oU F).length,.sl 3 5 0 zs.length (zs.length+sq)],.c (.i 0)]/\
    s=⟨[],[(2,.arr true 3 .int (oU F) 0),(3,.arr true 55 .arc zs sq)],4⟩)))
theorem Qq (F:TF) (hl:F.fin.length<=9223372036854775807):Ct Tryz.prog 21 [fV F] [] (hpF F) 2 (Sg F):=by
 by_cases h:aL F=0
 ·have hF:=aK h
  have hst:=hF.st
  have hss:=hF.start
  have hal:=hF.arcl
  have hfl:=hF.finl
  by_cases hb:pO F=true
  ·by_cases h3:30<F.st
   ·have hd:tI F=2:=by unfold tI;rw[if_neg (fun c=>c h),if_pos hb,if_pos h3]
    refine ctW Tryz.tyOk 7 [] Tryz.func21 rfl (by simp) (by simp) (fr:= [(0,fV F)]) rfl ?_
    refine gO ?_
    refine cI (aU F hl) [0,1] Tryz.call35 ?_
    rw[h]
    refine gO ?_
    refine cI (wG F (by omega)) [0,1] Tryz.call63 ?_
    rw[hb]
    refine gO fun h=>?_
    exact⟨[],[],2,.tup [.agg aW,.c (.i 2)],⟨by rfl,trivial,by simp⟩,by simp,.inl ⟨by rw[hd];decide,by rw[hd],rfl⟩⟩
   ·have hd:tI F=0:=by unfold tI;rw[if_neg (fun c=>c h),if_pos hb,if_neg h3]
    have hn:F.st=(F.st.toNat:Int):=by omega
    have hfn:(oU F).length=F.st.toNat:=tK _ _ _ _
    have hpa:=xM F (sZ F F.st.toNat) F.st.toNat F.arcs.length
    have hln:F.st.toNat*F.arcs.length<=90000:=Nat.le_trans (Nat.mul_le_mul (show F.st.toNat<=30 by omega) (show F.arcs.length<=3000 by omega)) (by omega)
    refine ctW Tryz.tyOk 7 [] Tryz.func21 rfl (by simp) (by simp) (fr:= [(0,fV F)]) rfl ?_
    refine gO ?_
    refine cI (aU F hl) [0,1] Tryz.call35 ?_
    rw[h]
    refine gO ?_
    refine cI (wG F (by omega)) [0,1] Tryz.call63 ?_
    rw[hb]
    refine gO fun h=>?_
    have ha: ∀a∈F.arcs,(0<=a.f/\a.f<(F.st.toNat:Int))/\(0<=a.t/\a.t<(F.st.toNat:Int))/\0<=a.w/\a.w<=1000000000:=fun a ha=>by
     have q:=hF.arc a ha
     obtain⟨q1,q2,q3,q4,_⟩:=q
     exact⟨⟨q1,by omega⟩,⟨q3,by omega⟩,(hF.arc a ha).w0,(hF.arc a ha).w1⟩
    refine cF (aBi F F.st.toNat hn (by omega) (by omega) (by omega) hF.fin ha) [0,1] Tryz.call64 ?_
    rintro _ _ ⟨zs,sq,hso,rfl,rfl⟩
    have hzl:=hso.norm.len
    change wL (aCJ F) zs at hso
    change (oU F).length=_ at hfn
    have hgc:=Tu ⟨F.st,F.start,oU F,zs,(oU F).length,zs.length+sq⟩ (by simp only;omega) (by simp only;omega)
    rw[show pFs F (sZ F F.st.toNat) F.st.toNat F.st.toNat=oU F from rfl]
    refine gM ?_
    refine cI (hgc) [4,5] Tryz.call65 ?_
    simp only
    cases hg:eM zs (oU F)with
    |true=>
     refine gO ?_
     exact⟨[],[],2,.tup [.agg aW,.c (.i 2)],⟨by rfl,trivial,by simp⟩,by simp,.inr ⟨hd,zs,sq,hso,.inl ⟨hg,rfl,rfl⟩⟩⟩
    |false=>
     refine gO ?_
     exact⟨[(2,some 4),(3,some 5)],[(2,.arr true 3 .int (oU F) 0),(3,.arr true 55 .arc zs sq)],4,.tup [.agg [.i F.st,.i F.start,.sl 2 1 0 (oU F).length (oU F).length,.sl 3 5 0 zs.length (zs.length+sq)],.c (.i 0)],⟨by rfl,trivial,by simp⟩,by simp,.inr ⟨hd,zs,sq,hso,.inr ⟨hg,rfl,rfl⟩⟩⟩
  ·have hd:tI F=4:=by unfold tI;rw[if_neg (fun c=>c h),if_neg hb]
   have hb2:pO F=false:=by simpa using hb
   refine ctW Tryz.tyOk 7 [] Tryz.func21 rfl (by simp) (by simp) (fr:= [(0,fV F)]) rfl ?_
   refine gO ?_
   refine cI (aU F hl) [0,1] Tryz.call35 ?_
   rw[h]
   refine gO ?_
   refine cI (wG F (by omega)) [0,1] Tryz.call63 ?_
   rw[hb2]
   refine gO ?_
   exact⟨[],[],2,.tup [.agg aW,.c (.i 4)],⟨by rfl,trivial,by simp⟩,by simp,.inl ⟨by rw[hd];decide,by rw[hd],rfl⟩⟩
 ·have hd:tI F=aL F:=by unfold tI;rw[if_pos h]
  refine ctW Tryz.tyOk 7 [] Tryz.func21 rfl (by simp) (by simp) (fr:= [(0,fV F)]) rfl ?_
  refine gO ?_
  refine cI (aU F hl) [0,1] Tryz.call35 ?_
  refine gO fun h=>?_
  exact⟨[],[],2,.tup [.agg aW,.c (.i (aL F))],⟨by rfl,trivial,by simp⟩,by simp,.inl ⟨by rw[hd];exact h,by rw[hd],rfl⟩⟩
abbrev Mz:TF:=⟨2,0,[-1,1],[⟨0,0,0,1,5⟩],2,1⟩
theorem Yf {v:SV} {s:S} (h:Sg Mz v s): ∃sq,v= .tup [.agg [.i 2,.i 0,.sl 2 1 0 2 2,.sl 3 5 0 0 (0+sq)],.c (.i 0)]/\s=⟨[],[(2,.arr true 3 .int [6,1] 0),(3,.arr true 55 .arc [] sq)],4⟩:=by
 have e1:tI Mz=0:=by kernel_rfl
 have e2:oU Mz=[6,1]:=by kernel_rfl
 have e3:aCJ Mz=[]:=by kernel_rfl
 rcases h with⟨h,_⟩|⟨_,zs,sq,hs,h⟩
 ·exact absurd e1 h
 ·rw[e3]at hs
  have hz:=hs.norm.len
  obtain rfl:zs=[]:=List.eq_nil_of_length_eq_zero (by simpa using hz)
  rw[e2]at h
  rcases h with⟨h,_⟩|⟨_,h1,h2⟩
  ·cases h
  ·exact⟨sq,h1,h2⟩
theorem Tt {cf ca:Nat} {n:Int} (h:sO ⟨2,0,[6,1],[],cf,ca⟩ [] [] n):n=6:=by
 have h1:=(h.1 (by kernel_rfl)).1
 have w0: ∀ {s u v t d},Way [] s u v t d->s=t/\d=0:=fun h=>by
  cases h with
  |nil=>exact⟨rfl,rfl⟩
  |cons ha _=>cases ha
 have key: ∀c,Wt ⟨2,0,[6,1],[],cf,ca⟩ [] [] c <-> c=6:=fun c=>by
  constructor
  ·rintro⟨t,d,hw,_,rfl⟩
   obtain⟨rfl,rfl⟩:=w0 hw
   rfl
  ·rintro rfl
   exact⟨0,0,.nil 0,by simp,by simp⟩
 rcases h1 with⟨_,h2⟩|⟨_,h2,_⟩
 ·exact absurd ((key 6).2 rfl) (h2 6)
 ·exact(key n).1 h2
theorem Fs:Ct Tryz.prog 8 [] [] [] 0 (Is 0 (.b true)):=by
 refine ctW Tryz.tyOk 8 [] Tryz.func8 rfl (by simp) (by simp) (fr:= []) rfl ?_
 refine gO ?_
 refine cF (yO) [] Tryz.call39 ?_
 rintro _ _ ⟨rfl,rfl⟩
 refine gM ?_
 refine cF (Qq Mz (by decide)) [0,3] Tryz.call21 ?_
 rintro v s hp
 obtain⟨sq,rfl,rfl⟩:=Yf hp
 clear hp
 refine gM ?_
 refine nA 3 .int (args':= [.a (.agg [.i 2,.i 0,.sl 4 1 0 2 2,.sl 5 5 0 0 (0+sq)]),.c (.sl 7 1 0 0 0),.c (.v (.slice none 0 0))]) (fun β=>by simp[SV.den,SA.den,SC.den,Env.add]) ?_
 (conv=>whnf)
 refine nA 3 .int (args':= [.a (.agg [.i 2,.i 0,.sl 4 1 0 2 2,.sl 5 5 0 0 (0+sq)]),.c (.sl 7 1 0 0 0),.c (.sl 8 1 0 0 0)]) (fun β=>by simp[SV.den,SA.den,SC.den,Env.add]) ?_
 (conv=>whnf)
 try simp only[Nat.reduceAdd,Nat.reduceSub]
 refine cF (pZ ⟨2,0,[6,1],[],2,0+sq⟩ [] [] 0 0 (show([6,1]:List Int).length<=9223372036854775807 by decide) (by kernel_rfl)) [4,5,7,8] Tryz.call36 ?_
 rintro _ _ ⟨n,hn,rfl,rfl⟩
 have hn6:=Tt hn
 subst hn6
 clear hn
 try simp only[Nat.reduceAdd,Nat.reduceSub]
 refine gM ?_
 refine cI (Pd Mz (by decide)) [0,3] Tryz.call40 ?_
 rw[show aB7 Mz= .tup [.c (.b true),.c (.i 0)] by kernel_rfl]
 refine gI ?_
 refine aQ.is ?_
 simp
theorem Ku (F:TF) (h1:F.fin.length*8<=140737488355328) (h2:F.arcs.length*40<=140737488355328):
  Ct Tryz.prog 12 [fV F] [] (hpF F) 2 (fun v s=> ∃sp sq,v= .a (.agg [.i F.st,.i F.start,.sl 2 1 0 F.fin.length (F.fin.length+sp),.sl 3 5 0 F.arcs.length (F.arcs.length+sq)])/\s=⟨[],[(2,.arr true 3 .int F.fin sp),(3,.arr true 55 .arc F.arcs sq)],4⟩):=by
 refine ctW Tryz.tyOk 5 [] Tryz.func12 rfl (by simp) (by simp) (fr:= [(0,fV F)]) rfl ?_
 refine gI ?_
 intro _ _
 rename_i sp sq
 exact⟨[(2,some 5),(3,some 7)],[(2,.arr true 3 .int F.fin sp),(3,.arr true 55 .arc F.arcs sq)],4,.a (.agg [.i F.st,.i F.start,.sl 2 1 0 F.fin.length (F.fin.length+sp),.sl 3 5 0 F.arcs.length (F.arcs.length+sq)]),⟨by rfl,trivial,by simp[lOp.appL,sub]⟩,by simp,sp,sq,rfl,rfl⟩
theorem oD (l:List Int) (cap:Nat) (sp:Nat) (h1:l.length<=9223372036854775807):
  Ct Tryz.prog 31 [.c (.sl 0 1 0 l.length cap)] [] [(0,.arr true 3 .int l sp)] 1 (fun v s=> ∃l':List Int,l'.length=l.length/\v= .tup []/\s=⟨[],[(0,.arr true 3 .int l' sp)],1⟩):=by
 refine ctW Tryz.tyOk 5 [] Tryz.func31 rfl (by simp) (by simp) (fr:= [(0,.c (.sl 0 1 0 l.length cap))]) rfl ?_
 refine gO ?_
 refine aJ (fun z:Nat×List Int=>⟨[(0,.c (.sl 0 1 0 l.length cap)),(2,.i z.1)],[(0,.arr true 3 .int z.2 sp)],1⟩)
  (fun z=>z.1<=l.length/\z.2.length=l.length) (fun z=>l.length-z.1) (0,l) [] ⟨by rfl,?_,?_⟩ ⟨Nat.zero_le _,rfl⟩ ?_
 ·simp
 ·simp
 ·rintro⟨k,q⟩ ⟨hk,hq⟩
  simp only at hk hq⊢
  (conv=>whnf)
  refine aG (fun hk2=>?_) (fun hk2=>?_)
  ·refine gO ?_
   refine⟨(k+1,q.set (0+(k:Int).toNat) (-7)),[],⟨by rfl,?_,?_⟩,⟨by simp only;omega,by simp[hq]⟩,by simp only;omega⟩
   ·simp
   ·simp
  ·refine gO ?_
   exact⟨[],[(0,.arr true 3 .int q sp)],1,.tup [],⟨by rfl,trivial,by simp⟩,by simp,q,hq,rfl,rfl⟩
theorem iC (F:TF) (sp sq:Nat) (h1:F.fin.length<=9223372036854775807) (h2:F.arcs.length<=9223372036854775807):
  Ct Tryz.prog 30 [fV F] [] [(0,.arr true 3 .int F.fin sp),(1,.arr true 55 .arc F.arcs sq)] 2 (fun v s=> ∃(l:List Int) (r:List Arc),l.length=F.fin.length/\r.length=F.arcs.length/\v= .tup []/\s=⟨[],[(0,.arr true 3 .int l sp),(1,.arr true 55 .arc r sq)],2⟩):=by
 refine ctW Tryz.tyOk 4 [] Tryz.func30 rfl (by simp) (by simp) (fr:= [(0,fV F)]) rfl ?_
 refine gO ?_
 refine aJ (fun z:Nat×List Int=>⟨[(1,.c (.ptr 2 0)),(2,.i z.1)],[(0,.arr true 3 .int z.2 sp),(1,.arr true 55 .arc F.arcs sq),(2,.box 25 (aA F))],3⟩)
  (fun z=>z.1<=F.fin.length/\z.2.length=F.fin.length) (fun z=>F.fin.length-z.1) (0,F.fin) [] ⟨by rfl,?_,?_⟩ ⟨Nat.zero_le _,rfl⟩ ?_
 ·simp
 ·simp[aA]
 ·rintro⟨k,q⟩ ⟨hk,hq⟩
  simp only at hk hq⊢
  (conv=>whnf)
  refine aG (fun hk2=>?_) (fun hk2=>?_)
  ·refine gO ?_
   refine⟨(k+1,q.set (0+(k:Int).toNat) (-7)),[],⟨by rfl,?_,?_⟩,⟨by simp only;omega,by simp[hq]⟩,by simp only;omega⟩
   ·simp
   ·simp[aA]
  ·refine gO ?_
   refine aJ (fun z:Nat×List Arc=>⟨[(1,.c (.ptr 2 0)),(3,.i z.1)],[(0,.arr true 3 .int q sp),(1,.arr true 55 .arc z.2 sq),(2,.box 25 (aA F))],3⟩)
    (fun z=>z.1<=F.arcs.length/\z.2.length=F.arcs.length) (fun z=>F.arcs.length-z.1) (0,F.arcs) [] ⟨by rfl,?_,?_⟩ ⟨Nat.zero_le _,rfl⟩ ?_
   ·simp
   ·simp[aA]
   ·rintro⟨j,r⟩ ⟨hj,hr⟩
    simp only at hj hr⊢
    (conv=>whnf)
    refine aG (fun hj2=>?_) (fun hj2=>?_)
    ·refine gO ?_
     refine⟨(j+1,r.set (0+(j:Int).toNat) ⟨-7,(r.getD (0+(j:Int).toNat) EK.arc.dflt).i,(r.getD (0+(j:Int).toNat) EK.arc.dflt).o,(r.getD (0+(j:Int).toNat) EK.arc.dflt).t,(r.getD (0+(j:Int).toNat) EK.arc.dflt).w⟩),[],⟨by rfl,?_,?_⟩,⟨by simp only;omega,by simp[hr]⟩,by simp only;omega⟩
     ·simp
     ·simp[aA]
    ·refine gO ?_
     exact⟨[],[(0,.arr true 3 .int q sp),(1,.arr true 55 .arc r sq)],2,.tup [],⟨by rfl,trivial,by simp⟩,by simp,q,r,hq,hr,rfl,rfl⟩
theorem Ct.back {P:Program} {f:Nat} {args:List SV} {hp:List (Nat×SO)} {m:Nat} {p q:SV->S->Prop} (h:Ct P f args [] hp m p) (hpq: ∀v s,p v s->aQ m q v s):Ct P f args [] hp m q:=
 fun β Z fp w hs=>(h β Z fp w hs).mono fun e w' ⟨v,β',Z',fp',s',he,hN,hp⟩=>by
  obtain⟨ren,hp1,nx1,v1,h1,h2,h3⟩:=hpq v s' hp
  obtain⟨g1,_,g3,g4⟩:=h1.sat (N:=(0,[])) (a:= {tmps:= #[],defers:= []}) hN.sat ⟨fun t v h=>(by cases h),fun t v h=>(by cases h),rfl,rfl⟩
  obtain⟨e1,e2⟩:=kS (β:=β') h2 hN.lt
  exact⟨v1,fB ren β',Z',_,⟨[],hp1,nx1⟩,by rw[he,e1],⟨fun id hid=>(g3 id hid).trans (hN.env id hid),hN.ext,hN.zz,rfl,g4,g1,e2⟩,h3⟩
abbrev rC (R:TF) (i:Nat):List SC:= [.i R.st,.i R.start,.sl i 1 0 R.fin.length (R.fin.length+R.capF),.sl (i+1) 5 0 R.arcs.length (R.arcs.length+R.capA)]
def RBd (R:TF):Prop:=R.fin.length<=9223372036854775807/\R.arcs.length<=9223372036854775807
def sP (B:List (Nat×SO)) (m:Nat) (v:SV) (s:S):Prop:= ∃(R:TF) (e:Int),RBd R/\v= .tup [.agg (rC R m),.c (.i e)]/\s=⟨[],B++[(m,.arr true 3 .int R.fin R.capF),(m+1,.arr true 55 .arc R.arcs R.capA)],m+2⟩
abbrev noR:TF:=⟨0,0,[],[],0,0⟩
theorem Iz {P:Program} {f:Nat} {args:List SV} {hp:List (Nat×SO)} {p:SV->S->Prop} (h:Ct P f args [] hp 2 p) (hpq: ∀v s,p v s->(∃e,v=noT e/\s=⟨[],[],2⟩)\/sP [] 2 v s):Ct P f args [] hp 2 (sP [] 2):=by
 refine h.back fun v s hv=>?_
 rcases hpq v s hv with⟨e,rfl,rfl⟩|⟨R,e,hb,rfl,rfl⟩
 ·exact⟨[(2,none),(3,none)],[(2,.arr true 3 .int [] 0),(3,.arr true 55 .arc [] 0)],4,.tup [.agg (rC noR 2),.c (.i e)],⟨by rfl,trivial,by simp[cT]⟩,by simp,noR,e,⟨by decide,by decide⟩,rfl,rfl⟩
 ·exact⟨[],[(2,.arr true 3 .int R.fin R.capF),(3,.arr true 55 .arc R.arcs R.capA)],4,.tup [.agg (rC R 2),.c (.i e)],⟨by rfl,trivial,by simp⟩,by simp,R,e,hb,rfl,rfl⟩
theorem Da {P:Program} {f:Nat} {args:List SV} {hp:List (Nat×SO)} {p:SV->S->Prop} (h:Ct P f args [] hp 4 p) (hpq: ∀v s,p v s->(∃e,v=noT e/\s=⟨[],[],4⟩)\/sP [] 4 v s):Ct P f args [] hp 4 (sP [] 4):=by
 refine h.back fun v s hv=>?_
 rcases hpq v s hv with⟨e,rfl,rfl⟩|⟨R,e,hb,rfl,rfl⟩
 ·exact⟨[(4,none),(5,none)],[(4,.arr true 3 .int [] 0),(5,.arr true 55 .arc [] 0)],6,.tup [.agg (rC noR 4),.c (.i e)],⟨by rfl,trivial,by simp[cT]⟩,by simp,noR,e,⟨by decide,by decide⟩,rfl,rfl⟩
 ·exact⟨[],[(4,.arr true 3 .int R.fin R.capF),(5,.arr true 55 .arc R.arcs R.capA)],6,.tup [.agg (rC R 4),.c (.i e)],⟨by rfl,trivial,by simp⟩,by simp,R,e,hb,rfl,rfl⟩
theorem aCi {P:Program} {f:Nat} {args:List SV} {hp:List (Nat×SO)} {p:SV->S->Prop} {x:Glo} (h:Ct P f args [] hp 3 p) (hpq: ∀v s,p v s->(∃e,v=noT e/\s=⟨[],[(2,aF x)],3⟩)\/sP [(2,aF x)] 3 v s):Ct P f args [] hp 3 (sP [(2,aF x)] 3):=by
 refine h.back fun v s hv=>?_
 rcases hpq v s hv with⟨e,rfl,rfl⟩|⟨R,e,hb,rfl,rfl⟩
 ·exact⟨[(3,none),(4,none)],[(2,aF x),(3,.arr true 3 .int [] 0),(4,.arr true 55 .arc [] 0)],5,.tup [.agg (rC noR 3),.c (.i e)],⟨by rfl,trivial,by simp[cT]⟩,by simp,noR,e,⟨by decide,by decide⟩,rfl,rfl⟩
 ·exact⟨[],[(2,aF x),(3,.arr true 3 .int R.fin R.capF),(4,.arr true 55 .arc R.arcs R.capA)],5,.tup [.agg (rC R 3),.c (.i e)],⟨by rfl,trivial,by simp⟩,by simp,R,e,hb,rfl,rfl⟩
theorem Uu (F:TF) (hl:F.fin.length<=9223372036854775807):Ct Tryz.prog 16 [fV F] [] (hpF F) 2 (sP [] 2):=by
 by_cases h:aL F=0
 ·refine Iz (vU F hl h) ?_
  rintro _ _ ⟨zs,sp,sq,rfl,rfl,hn⟩
  have:=hn.len
  have:=(aK h).arcl
  rw[List.length_map]at*
  exact .inr ⟨⟨F.st,F.start,F.fin,zs,sp,sq⟩,0,⟨hl,by simp only;omega⟩,rfl,rfl⟩
 ·exact Iz (Ut F hl h) fun v s h=> .inl ⟨_,h⟩
theorem jT {F:TF} (h:aL F=0):F.fin.length<=200/\F.arcs.length<=3000:=by
 have hF:=aK h
 have h1:=hF.st
 have h2:=hF.finl
 exact⟨by omega,hF.arcl⟩
theorem pT.own {st:Int} {fin:List Int} {raw:List Arc} {n:Nat} {v:SV} {s:S} (h:pT st fin raw n v s) (h1:fin.length<=9223372036854775807) (h2:raw.length<=9223372036854775807):sP [] n v s:=by
 obtain⟨zs,sp,sq,rfl,rfl,hn⟩:=h
 have:=hn.len
 exact⟨⟨st,0,fin,zs,sp,sq⟩,0,⟨h1,by simp only;omega⟩,rfl,rfl⟩
theorem Vg (F G:TF) (hF:F.fin.length<=9223372036854775807) (hG:G.fin.length<=9223372036854775807):Ct Tryz.prog 17 [fV F,gV G] [] (hpG F G) 4 (sP [] 4):=by
 by_cases h:fF F G=0
 ·obtain⟨h1,h2⟩:=nE (jS h).1
  have b1:=jT h1
  have b2:=jT h2
  exact Da (qJ F G hF hG h) fun v s h=> .inr (h.own (by simp only[List.length_cons,List.length_append];omega) (by simp only[bR,List.length_cons,List.length_append,List.length_map,List.length_nil];omega))
 ·exact Da (Vf F G hF hG h) fun v s h=> .inl ⟨_,h⟩
theorem Vs (F G:TF) (hF:F.fin.length<=9223372036854775807) (hG:G.fin.length<=9223372036854775807):Ct Tryz.prog 18 [fV F,gV G] [] (hpG F G) 4 (sP [] 4):=by
 by_cases h:fF F G=0
 ·obtain⟨h1,h2⟩:=nE (jS h).1
  have b1:=jT h1
  have b2:=jT h2
  have b3:=gY 1 (1+F.st+G.start) F.fin F.fin.length
  exact Da (qN F G hF hG h) fun v s h=> .inr (h.own (by simp only[dA,List.length_cons,List.length_append,List.length_map];omega) (by simp only[dP,List.length_cons,List.length_append,List.length_map,List.length_nil];omega))
 ·exact Da (Vr F G hF hG h) fun v s h=> .inl ⟨_,h⟩
theorem aAC (F:TF) (hF:F.fin.length<=9223372036854775807):Ct Tryz.prog 19 [fV F] [] (hpF F) 2 (sP [] 2):=by
 by_cases h:tG F=0
 ·have b1:=jT (jS h).1
  have b3:=gY 1 0 F.fin F.fin.length
  exact Iz (Lq F hF h) fun v s h=> .inr (h.own (by simp only[gE,List.length_cons,List.length_append,List.length_map];omega) (by simp only[hJ,List.length_cons,List.length_append,List.length_map,List.length_nil];omega))
 ·exact Iz (aAB F hF h) fun v s h=> .inl ⟨_,h⟩
theorem Oh (F G:TF) (hF:F.fin.length<=9223372036854775807) (hG:G.fin.length<=9223372036854775807):Ct Tryz.prog 20 [fV F,gV G] [] (hpG F G) 4 (sP [] 4):=by
 by_cases h:gC F G=0
 ·refine Da (sF F G hF hG h) ?_
  rintro v s ⟨x,zs,_,_,⟨h1,h2,_⟩|⟨_,p,hp,h1,h2,sp,sq,h3,h4⟩⟩
  ·exact .inl ⟨_,h1,h2⟩
  ·generalize F0 F G x.1 zs=Q at*
   refine .inr ⟨⟨(kT Q p).st,(kT Q p).start,(kT Q p).fin,(kT Q p).arcs,sp,sq⟩,0,⟨?_,by simp only;omega⟩,h3,h4⟩
   unfold kT at h1⊢
   split at h1
   ·rename_i hq
    simp only[if_pos hq,iM]at h1⊢
    omega
   ·rename_i hq
    simp only[if_neg hq]
    decide
 ·exact Da (Og F G hF hG h) fun v s h=> .inl ⟨_,h⟩
theorem Yg (F:TF) (hl:F.fin.length<=9223372036854775807):Ct Tryz.prog 21 [fV F] [] (hpF F) 2 (sP [] 2):=by
 refine Iz (Qq F hl) ?_
 rintro v s (⟨_,h1,h2⟩|⟨h0,zs,sq,hso,⟨_,h1,h2⟩|⟨_,h1,h2⟩⟩)
 ·exact .inl ⟨_,h1,h2⟩
 ·exact .inl ⟨_,h1,h2⟩
 ·have hf:aL F=0:=by
   unfold tI at h0
   by_cases q:aL F=0
   ·exact q
   ·rw[if_pos q]at h0;exact absurd h0 q
  have hF:=aK hf
  have h3:F.st<=30:=by
   unfold tI at h0
   rw[if_neg (fun c=>c hf)]at h0
   split at h0
   ·split at h0
    ·cases h0
    ·omega
   ·cases h0
  have h4:=hF.st
  have h5:=hF.arcl
  have hz:=hso.norm.len
  have hpa:=xM F (sZ F F.st.toNat) F.st.toNat F.arcs.length
  have hfn:(oU F).length=F.st.toNat:=tK _ _ _ _
  have hln:F.st.toNat*F.arcs.length<=90000:=Nat.le_trans (Nat.mul_le_mul (show F.st.toNat<=30 by omega) h5) (by omega)
  change zs.length<=(pAs F (sZ F F.st.toNat) F.st.toNat F.arcs.length).length at hz
  exact .inr ⟨⟨F.st,F.start,oU F,zs,0,sq⟩,0,⟨by simp only;omega,by simp only;omega⟩,h1,h2⟩
theorem Hb (F:TF) (hl:F.fin.length<=9223372036854775807) (x:Glo) (hx:gJ x):Ct Tryz.prog 26 [fV F] [] (hpF F++[(2,aF x)]) 3 (sP [(2,aF x)] 3):=by
 refine aCi (xC F hl x hx) ?_
 rintro v s (⟨_,h1,h2⟩|⟨h0,U,hus,⟨_,h1,h2⟩|⟨hb,st,hmd,_,sp,sq,h1,h2⟩⟩)
 ·exact .inl ⟨_,h1,h2⟩
 ·exact .inl ⟨_,h1,h2⟩
 ·have hf:aL F=0:=by
   unfold Ao at h0
   by_cases q:aL F=0
   ·exact q
   ·rw[if_pos q]at h0;exact absurd h0 q
  have hF:=aK hf
  obtain⟨hUw,hUs,_⟩:=hus.ok (WOk.of hF) hF.start
  obtain⟨_,hs1,hs2⟩:=hmd.small hUw.st.1 hUw.w (fun a ha=>(hUw.arc a ha).2.2) hUs hb
  exact .inr ⟨⟨(st.1.length:Nat),0,st.1.map (bQ U),st.2,sp,sq⟩,0,⟨by simp only[List.length_map];omega,by simp only;omega⟩,h1,h2⟩
theorem Zj (F:TF) (hl:F.fin.length<=9223372036854775807) (x:Glo) (hx:gJ x):Ct Tryz.prog 27 [fV F] [] (hpF F++[(2,aF x)]) 3 (sP [(2,aF x)] 3):=by
 refine aCi (Sk F hl x hx) fun v s h=>?_
 obtain⟨e,n,ff,oo,ha,⟨_,h1,h2⟩|⟨rfl,sp,sq,h1,h2⟩⟩:=h.split
 ·exact .inl ⟨_,h1,h2⟩
 ·obtain⟨q1,q2,q3⟩:=ha.len2
  exact .inr ⟨⟨(n:Nat),0,ff,oo,sp,sq⟩,0,⟨by simp only;omega,q3⟩,h1,h2⟩
def aDX (v:SV) (s:S):Prop:= ∃(R:TF) (n e:Int),RBd R/\v= .tup [.agg (rC R 2),.c (.i n),.c (.i e)]/\s=⟨[],[(2,.arr true 3 .int R.fin R.capF),(3,.arr true 55 .arc R.arcs R.capA)],4⟩
theorem Qs {n e:Int}:aQ 2 aDX (.tup [.agg [.i 0,.i 0,.v (.slice none 0 0),.v (.slice none 0 0)],.c (.i n),.c (.i e)]) ⟨[],[],2⟩:=
 ⟨[(2,none),(3,none)],[(2,.arr true 3 .int [] 0),(3,.arr true 55 .arc [] 0)],4,.tup [.agg (rC noR 2),.c (.i n),.c (.i e)],⟨by rfl,trivial,by simp[cT]⟩,by simp,noR,n,e,⟨by decide,by decide⟩,rfl,rfl⟩
theorem aBf (F:TF) (hl:F.fin.length<=9223372036854775807):Ct Tryz.prog 22 [fV F] [] (hpF F) 2 aDX:=by
 by_cases h:aL F=0
 ·refine(Qm F hl h).back fun v s hp=>?_
  have hal:=(jT h).2
  have h3:=vF (kZ F) F.arcs
  unfold pS at hp
  split at hp
  ·obtain⟨sp,rfl,rfl⟩:=hp
   exact⟨[(3,none)],[(2,.arr true 3 .int F.fin sp),(3,.arr true 55 .arc [] 0)],4,.tup [.agg (rC ⟨F.st,F.start,F.fin,[],sp,0⟩ 2),.c (.i (-1)),.c (.i 0)],⟨by rfl,trivial,by simp[cT]⟩,by simp,⟨F.st,F.start,F.fin,[],sp,0⟩,-1,0,⟨hl,Nat.zero_le _⟩,rfl,rfl⟩
  ·split at hp
   ·obtain⟨rfl,rfl⟩:=hp
    exact Qs
   ·obtain⟨sp,sq,rfl,rfl⟩:=hp
    exact⟨[],[(2,.arr true 3 .int (eC (kZ F) F.fin F.fin.length) sp),(3,.arr true 55 .arc (dD (kZ F) F.arcs) sq)],4,.tup [.agg [.i F.st,.i F.start,.sl 2 1 0 F.fin.length (F.fin.length+sp),.sl 3 5 0 (dD (kZ F) F.arcs).length ((dD (kZ F) F.arcs).length+sq)],.c (.i ((kZ F).getD F.start.toNat 0)),.c (.i 0)],⟨by rfl,trivial,by simp⟩,by simp,
     ⟨F.st,F.start,eC (kZ F) F.fin F.fin.length,dD (kZ F) F.arcs,sp,sq⟩,(kZ F).getD F.start.toNat 0,0,⟨by simp only[jU];exact hl,by simp only;omega⟩,by simp[rC,jU],rfl⟩
 ·refine(aBe F hl h).back ?_
  rintro _ _ ⟨rfl,rfl⟩
  exact Qs
theorem aDt (F:TF) (hl:F.fin.length<=9223372036854775807):Ct Tryz.prog 23 [fV F] [] (hpF F) 2 (fun v s=> ∃l sp e,l.length<=9223372036854775807/\v= .tup [.c (.sl 2 1 0 l.length (l.length+sp)),.c (.i e)]/\s=⟨[],[(2,.arr true 3 .int l sp)],3⟩):=by
 by_cases h:aL F=0
 ·have hF:=aK h
  have h1:=(Po hF.big).len
  have h2:=hF.st
  rw[<-Nh hF.big]at h1
  refine(aCf F hl h).to ?_
  rintro _ _ ⟨sp,rfl,rfl⟩
  exact⟨(onS F).1,sp,0,by omega,rfl,rfl⟩
 ·refine(aDs F hl h).back ?_
  rintro _ _ ⟨rfl,rfl⟩
  exact⟨[(2,none)],[(2,.arr true 3 .int [] 0)],3,.tup [.c (.sl 2 1 0 0 0),.c (.i (aL F))],⟨by rfl,trivial,by simp[cT]⟩,by simp,[],0,_,by decide,rfl,rfl⟩
theorem aBZ (F:TF) (hl:F.fin.length<=9223372036854775807):Ct Tryz.prog 24 [fV F] [] (hpF F) 2 (fun v s=> ∃l sp n e,l.length<=9223372036854775807/\v= .tup [.c (.sl 2 1 0 l.length (l.length+sp)),.c (.i n),.c (.i e)]/\s=⟨[],[(2,.arr true 3 .int l sp)],3⟩):=by
 by_cases h:aL F=0
 ·have hF:=aK h
  have h2:=hF.st
  have h1:=Hu F.arcs (cY F).2 F.st.toNat (Lc F).1
  refine(Sb F hl h).to ?_
  rintro _ _ ⟨sp,rfl,rfl⟩
  exact⟨Be F,sp,_,0,by unfold Be;rw[List.length_reverse];omega,rfl,rfl⟩
 ·refine(aBY F hl h).back ?_
  rintro _ _ ⟨rfl,rfl⟩
  exact⟨[(2,none)],[(2,.arr true 3 .int [] 0)],3,.tup [.c (.sl 2 1 0 0 0),.c (.i 0),.c (.i (aL F))],⟨by rfl,trivial,by simp[cT]⟩,by simp,[],0,_,_,by decide,rfl,rfl⟩
theorem Wj (F:TF) (u v:List Int) (cu cv:Nat) (hl:F.fin.length<=9223372036854775807) (hsc:cG F u v≠0):
  Ct Tryz.prog 25 [fV F,.c (.sl 2 1 0 u.length cu),.c (.sl 3 1 0 v.length cv)] [] (hpQ F u v) 4 (Is 4 (.tup [.c (.v (.slice none 0 0)),.c (.i 0),.c (.i (cG F u v))])):=by
 refine ctW Tryz.tyOk 15 [] Tryz.func25 rfl (by simp) (by simp) (fr:= [(0,fV F),(1,.c (.sl 2 1 0 u.length cu)),(2,.c (.sl 3 1 0 v.length cv))]) rfl ?_
 refine gO ?_
 refine cI (aAL F u v cu cv hl hsc) [0,1,2,3] Tryz.call73 ?_
 refine gO fun h=>?_
 refine aQ.is ?_
 simp
theorem aAM (F:TF) (u v:List Int) (cu cv:Nat) (hl:F.fin.length<=9223372036854775807):Ct Tryz.prog 25 [fV F,.c (.sl 2 1 0 u.length cu),.c (.sl 3 1 0 v.length cv)] [] (hpQ F u v) 4 (fun x s=> ∃l sp n e,l.length<=9223372036854775807/\x= .tup [.c (.sl 4 1 0 l.length (l.length+sp)),.c (.i n),.c (.i e)]/\s=⟨[],[(4,.arr true 3 .int l sp)],5⟩):=by
 have hno: ∀n e,aQ 4 (fun x s=> ∃l sp n e,l.length<=9223372036854775807/\x= .tup [.c (.sl 4 1 0 l.length (l.length+sp)),.c (.i n),.c (.i e)]/\s=⟨[],[(4,.arr true 3 .int l sp)],5⟩) (.tup [.c (.v (.slice none 0 0)),.c (.i n),.c (.i e)]) ⟨[],[],4⟩:=fun n e=>
  ⟨[(4,none)],[(4,.arr true 3 .int [] 0)],5,.tup [.c (.sl 4 1 0 0 0),.c (.i n),.c (.i e)],⟨by rfl,trivial,by simp[cT]⟩,by simp,[],0,_,_,by decide,rfl,rfl⟩
 by_cases h:cG F u v=0
 ·refine(Pm F u v cu cv hl h).back ?_
  rintro _ _ (⟨_,_,_,rfl,rfl⟩|⟨E,l,sp,_,_,hb,rfl,rfl⟩)
  ·exact hno _ _
  ·exact⟨[],[(4,.arr true 3 .int l sp)],5,.tup [.c (.sl 4 1 0 l.length (l.length+sp)),.c (.i E.2),.c (.i 0)],⟨by rfl,trivial,by simp⟩,by simp,l,sp,_,_,by omega,rfl,rfl⟩
 ·refine(Wj F u v cu cv hl h).back ?_
  rintro _ _ ⟨rfl,rfl⟩
  exact hno _ _
end Go.Fw
