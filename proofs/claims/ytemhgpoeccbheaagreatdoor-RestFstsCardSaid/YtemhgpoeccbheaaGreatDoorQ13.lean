/-
  Texts of subsets tell them; numbers of subsets; rows of subsets in a pool.
-/
import Derived.Test.YtemhgpoeccbheaaGreatDoorQ12
import Derived.Test.YtemhgpoeccbheaaGreatDoorQ08
import Derived.Test.YtemhgpoeccbheaaGreatDoorQ05
import Derived.Test.YtemhgpoeccbheaaGreatDoorQ10
import Derived.Test.YtemhgpoeccbheaaGreatDoorQ07
set_option linter.unusedSimpArgs false
set_option linter.unusedVariables false
set_option maxRecDepth 100000
set_option maxHeartbeats 16000000
namespace Go.Fw
open Go Go.Proofs
def Pn (l:List UInt8):Nat:=l.foldl (fun n c=>10*n+(c.toNat-48)) 0
theorem oA {n:Nat} (h:n<256):(UInt8.ofNat n).toNat=n:=by
 simp[UInt8.toNat_ofNat']
 omega
theorem uT: ∀(n u:Nat),u<=n->Pn (Lib.decDigits u)=u
 |0,u,h=>by
  have:u=0:=by omega
  subst this
  rw[Lib.decDigits,dif_pos (by omega)]
  rfl
 |n+1,u,h=>by
  rw[Lib.decDigits]
  split
  ·simp only[Pn,List.foldl_cons,List.foldl_nil]
   rw[oA (by omega)]
   omega
  ·have ih:=uT n (u / 10) (by omega)
   unfold Pn at ih⊢
   rw[List.foldl_append,ih]
   simp only[List.foldl_cons,List.foldl_nil]
   rw[oA (by omega)]
   omega
theorem Em: ∀(n u:Nat),u<=n-> ∀c∈Lib.decDigits u,48<=c.toNat/\c.toNat<=57
 |0,u,h=>by
  have:u=0:=by omega
  subst this
  rw[Lib.decDigits,dif_pos (by omega)]
  intro c hc
  simp only[List.mem_singleton]at hc
  subst hc
  rw[oA (by omega)]
  omega
 |n+1,u,h=>by
  rw[Lib.decDigits]
  split
  ·intro c hc
   simp only[List.mem_singleton]at hc
   subst hc
   rw[oA (by omega)]
   omega
  ·intro c hc
   rw[List.mem_append]at hc
   rcases hc with hc|hc
   ·exact Em n (u / 10) (by omega) c hc
   ·simp only[List.mem_singleton]at hc
    subst hc
    rw[oA (by omega)]
    omega
theorem zW {n:Int} (h:0<=n):Lib.itoa n=Lib.decDigits n.toNat:=by unfold Lib.itoa;rw[if_neg (by omega)]
theorem rW {n:Int} (h:0<=n): ∀c∈Lib.itoa n,48<=c.toNat/\c.toNat<=57:=by
 rw[zW h]
 exact Em _ _ (Nat.le_refl _)
theorem pD {n m:Int} (hn:0<=n) (hm:0<=m) (h:Lib.itoa n=Lib.itoa m):n=m:=by
 rw[zW hn,zW hm]at h
 have:=congrArg Pn h
 rw[uT _ _ (Nat.le_refl _),uT _ _ (Nat.le_refl _)]at this
 omega
theorem wE {α:Type} {x:α}: ∀ {p q r t:List α},x∉p->x∉q->p++x::r=q++x::t->p=q/\r=t
 | [],[],r,t,_,_,h=>by simpa using h
 | [],y::q,r,t,_,h2,h=>by
   simp only[List.nil_append,List.cons_append,List.cons.injEq]at h
   exact absurd (by simp[h.1]) h2
 |y::p,[],r,t,h1,_,h=>by
  simp only[List.nil_append,List.cons_append,List.cons.injEq]at h
  exact absurd (by simp[h.1]) h1
 |y::p,z::q,r,t,h1,h2,h=>by
  simp only[List.cons_append,List.cons.injEq]at h
  obtain⟨e1,e2⟩:=wE (fun hx=>h1 (by simp[hx])) (fun hx=>h2 (by simp[hx])) h.2
  exact⟨by rw[h.1,e1],e2⟩
theorem lJ {n:Int} (hn:0<=n) {x:UInt8} (hx:x.toNat<48\/57<x.toNat):x∉Lib.itoa n:=fun h=>by
 have:=rW hn x h
 omega
def Wb (l:List Duo):Prop:= ∀e∈l,0<=e.a/\0<=e.b
theorem Rd: ∀ {l m:List Duo},Wb l->Wb m->kyB l=kyB m->l=m
 | [],[],_,_,_=>rfl
 | [],e::m,_,_,h=>by
   have:=congrArg List.length h
   simp[kyB]at this
 |e::l,[],_,_,h=>by
  have:=congrArg List.length h
  simp[kyB]at this
 |e::l,g::m,hl,hm,h=>by
  have he:=hl e (by simp)
  have hg:=hm g (by simp)
  have h2:Lib.itoa e.a++58::(Lib.itoa e.b++32::kyB l)=Lib.itoa g.a++58::(Lib.itoa g.b++32::kyB m):=by
   have: ∀(x:Duo) (t:List Duo),kyB (x::t)=Lib.itoa x.a++58::(Lib.itoa x.b++32::kyB t):=fun x t=>by simp[kyB]
   rw[<-this,<-this];exact h
  obtain⟨a1,a2⟩:=wE (lJ he.1 (by decide)) (lJ hg.1 (by decide)) h2
  obtain⟨b1,b2⟩:=wE (lJ he.2 (by decide)) (lJ hg.2 (by decide)) a2
  have e1:=pD he.1 hg.1 a1
  have e2:=pD he.2 hg.2 b1
  rw[Rd (fun x hx=>hl x (by simp[hx])) (fun x hx=>hm x (by simp[hx])) b2]
  cases e
  cases g
  simp only at e1 e2
  rw[e1,e2]
structure Br (es:List (ByteArray×Int×Nat)) (L:List (List Duo)):Prop where
 len:es.length=L.length
 lk: ∀s,Wb s-> @lkM EK.str.ty EK.int.ty (EK.instDeq .str) es (bs (kyB s))=if s∈L then some ((L.idxOf s:Nat):Int)else none
theorem pE {α:Type} [BEq α] [LawfulBEq α] {l m:List α} {x:α} (h:x∈l):(l++m).idxOf x=l.idxOf x:=by
 rw[List.idxOf_append,if_pos h]
theorem gW {α:Type} [BEq α] [LawfulBEq α] {l m:List α} {x:α} (h:x∉l):(l++m).idxOf x=m.idxOf x+l.length:=by
 rw[List.idxOf_append,if_neg h]
theorem Br.new {es:List (ByteArray×Int×Nat)} {L:List (List Duo)} (h:Br es L) {s:List Duo} (hp:Wb s) (hs:s∉L) (clk:Nat):Br (@bL EK.str.ty EK.int.ty (EK.instDeq .str) es clk (bs (kyB s)) ((L.length:Nat):Int)).1 (L++[s]):=by
 have hn: ¬(@lkM EK.str.ty EK.int.ty (EK.instDeq .str) es (bs (kyB s))).isSome=true:=by rw[h.lk s hp,if_neg hs];simp
 refine⟨?_,fun t ht=>?_⟩
 ·unfold bL
  rw[if_neg hn]
  simp[h.len]
 ·rw[fZ]
  by_cases e:bs (kyB t)=bs (kyB s)
  ·have e2:=Rd ht hp (aAv e)
   subst e2
   rw[if_pos rfl,if_pos (by simp),gW hs]
   simp
  ·have e2:t≠s:=fun c=>e (by rw[c])
   rw[if_neg e,h.lk t ht]
   by_cases hx:t∈L
   ·rw[if_pos hx,if_pos (by simp[hx]),pE hx]
   ·rw[if_neg hx,if_neg (by simp[hx,e2])]
structure sN (m:List (Addr×List Duo×Nat)) (rows:List Sli) (L:List (List Duo)):Prop where
 len:rows.length=L.length
 hd: ∀j,j<L.length->Hd m (rows.getD j EK.sli.dflt)
 row: ∀j,j<L.length->aM m (rows.getD j EK.sli.dflt).a=L.getD j []
theorem sN.nil:sN [] [] []:=⟨rfl,fun j h=>absurd h (Nat.not_lt_zero _),fun j h=>absurd h (Nat.not_lt_zero _)⟩
theorem sN.frz {m m':List (Addr×List Duo×Nat)} {rows:List Sli} {L:List (List Duo)} (h:sN m rows L) {s:List Duo} {sp cap:Nat} {y:Sli} (hf:Frz m s sp s.length cap m' y):sN m' rows L:=by
 cases hf with
 |nil _=>exact h
 | @own a hn _=>
   have hk: ∀b y,lkA m b=some y->lkA ((a,s,sp)::m) b=some y:=by
    intro b y hb
    unfold lkA
    split
    ·rename_i e;rw[e,hb]at hn;cases hn
    ·exact hb
   refine⟨h.len,fun j hj=>?_,fun j hj=>?_⟩
   ·have h2:=h.hd j hj
    unfold Hd at h2⊢
    split
    ·rename_i e;rw[e]at h2;exact h2
    ·rename_i b e
     rw[e]at h2
     simp only at h2⊢
     cases hl:lkA m b with
     |none=>rw[hl]at h2;exact h2.elim
     |some y=>rw[hl]at h2;rw[hk b y hl];exact h2
   ·rw[<-h.row j hj]
    have h2:=h.hd j hj
    unfold Hd at h2
    split at h2
    ·rename_i e;rw[e];rfl
    ·rename_i b e
     rw[e]
     cases hl:lkA m b with
     |none=>rw[hl]at h2;exact h2.elim
     |some y=>
      unfold aM
      simp only[hk b y hl,hl]
theorem sN.add {m:List (Addr×List Duo×Nat)} {rows:List Sli} {L:List (List Duo)} (h:sN m rows L) {s:List Duo} {y:Sli} (hy:Hd m y) (hr:aM m y.a=s):sN m (rows++[y]) (L++[s]):=by
 have hg: ∀j,j<L.length->(rows++[y]).getD j EK.sli.dflt=rows.getD j EK.sli.dflt:=fun j hj=>by
  simp only[List.getD]
  rw[List.getElem?_append_left (by rw[h.len];exact hj)]
 have hg2:(rows++[y]).getD L.length EK.sli.dflt=y:=by
  simp only[List.getD]
  rw[List.getElem?_append_right (by rw[h.len];exact Nat.le_refl _),h.len]
  simp
 refine⟨by simp[h.len],fun j hj=>?_,fun j hj=>?_⟩
 ·simp only[List.length_append,List.length_cons,List.length_nil]at hj
  by_cases e:j=L.length
  ·subst e;rw[hg2];exact hy
  ·rw[hg j (by omega)];exact h.hd j (by omega)
 ·simp only[List.length_append,List.length_cons,List.length_nil]at hj
  by_cases e:j=L.length
  ·subst e
   rw[hg2,hr]
   simp[List.getD]
  ·rw[hg j (by omega),h.row j (by omega)]
   simp only[List.getD]
   rw[List.getElem?_append_left (by omega)]
theorem aAa {m m':List (Addr×List Duo×Nat)} {s:List Duo} {sp cap:Nat} {y:Sli} (hf:Frz m s sp s.length cap m' y) (hc:cap<=s.length+sp) (hne:s≠ []):Hd m' y/\aM m' y.a=s/\y.n=s.length/\y.c=cap:=by
 cases hf with
 |nil h=>exact absurd h hne
 | @own a hn _=>
   have:lkA ((a,s,sp)::m) a=some (s,sp):=by unfold lkA;rw[if_pos rfl]
   refine⟨?_,?_,rfl,rfl⟩
   ·unfold Hd
    simp only[this]
    exact⟨trivial,hc⟩
   ·unfold aM
    simp only[this]
def dV (L:List (List Duo)) (s:List Duo):List (List Duo):=if s∈L then L else L++[s]
theorem Rp {F:TF} {B:Int} (hfin: ∀n∈F.fin,-1<=n/\n<=1000000000) (hB:0<=B): ∀(l:List Duo),(∀e∈l,(0<=e.a/\e.a<F.fin.length)/\0<=e.b/\e.b<=B)-> ∀r,-1<=r/\r<=B+1000000000-> -1<=l.foldl (sC F) r/\l.foldl (sC F) r<=B+1000000000
 | [],_,r,hr=>hr
 |e::l,hl,r,hr=>by
  have he:=hl e (by simp)
  have hf:=hfin _ (aB F.fin e.a.toNat 0 (by omega))
  refine Rp hfin hB l (fun x hx=>hl x (by simp[hx])) _ ?_
  unfold sC
  split<;>omega
abbrev Jy (F:TF) (L:List (List Duo)) (es:List (ByteArray×Int×Nat)) (clk:Nat) (rows:List Sli) (m:List (Addr×List Duo×Nat)) (spr spf nr cr:Nat) (il jf ir:Nat) (x:Glo):List (Nat×SO):= [(2,.box 150 (dC F il rows.length (rows.length+spr) 0 0 jf (L.map (bQ F)).length ((L.map (bQ F)).length+spf) ir nr cr)),(4,.map .str .int es clk),(il,.arr true 153 .sli rows spr),(6,.pool 151 .duo m),(jf,.arr true 3 .int (L.map (bQ F)) spf),(9,aF x)]
section
variable (F:TF) (hF:WOk F) (hst1:F.st<=1000) (x:Glo) (hx:gJ x) (L:List (List Duo)) (es:List (ByteArray×Int×Nat)) (clk:Nat) (rows:List Sli) (m:List (Addr×List Duo×Nat)) (spr spf nr cr:Nat) (s:List Duo) (ya:Option Addr) (yc:Nat) (B:Int) (hB:0<=B/\B<=1000000000000) (hs:SOk F B s) (hnum:Br es L) (htab:sN m rows L) (hy:Hd m ⟨ya,s.length,yc⟩) (hr:aM m ya=s) (hL:L.length<=100000)
include hF hst1 hx hB hs hnum htab hy hr hL
omit hy hL in
theorem Nk (hin:s∈L):
  Ct Tryz.prog 123 [.c (.ptr 2 0),.c (.h ⟨ya,s.length,yc⟩)] [] ((0,.arr false 3 .int F.fin 0)::Jy F L es clk rows m spr spf nr cr 5 7 8 x) 10
  (fun v t=> ∃es' clk' rows' spr' spf',Br es' L/\sN m rows' L/\v= .i ((L.idxOf s:Nat):Int)/\t=⟨[],Jy F L es' clk' rows' m spr' spf' nr cr 10 11 8 x,12⟩):=by
 have hst:=hF.st
 have hsl:=hs.len
 have hp:Wb s:=fun e he=>by have:=hs.rng e he;omega
 have hlk:=hnum.lk s hp
 have hes:=hnum.len
 rw[if_pos hin]at hlk
 have hdok:DOk 10000000000000 s:=⟨by omega,fun e he=>by have:=hs.rng e he;omega⟩
 refine ctW Tryz.tyOk 13 [47,48,49] Tryz.func123 rfl (by simp) (by simp) (fr:= [(0,.c (.ptr 2 0)),(1,.c (.h ⟨ya,s.length,yc⟩))]) rfl ?_
 refine gO ?_
 refine Hg 6 [true] Tryz.call143 (by simp) ?_
 (conv=>whnf)
 have hks:=aCm x hx (aM m ya) yc (by rw[hr];exact hdok)
 rw[hr]at hks
 simp only[hr]
 refine aO (hks) [10,9] Tryz.call143 rfl (by simp[lU,hr]) (by simp[lU,hr]) (by simp) ?_
 rintro _ _ ⟨rfl,rfl⟩
 refine gI ?_
 refine⟨fun h=>?_,fun h=>⟨?_,fun _=>?_⟩⟩
 ·refine⟨[(10,some 5),(11,some 7)],Jy F L es clk rows m spr spf nr cr 10 11 8 x,12,.i ((L.idxOf s:Nat):Int),⟨by rfl,trivial,by simp⟩,?_,es,clk,rows,spr,spf,hnum,htab,rfl,rfl⟩
  simp only[eqV,eqA,eqC,hlk,Option.getD_some]
 all_goals (rw[hlk]at h;cases h)
theorem Jc (hin:s∉L):
  Ct Tryz.prog 123 [.c (.ptr 2 0),.c (.h ⟨ya,s.length,yc⟩)] [] ((0,.arr false 3 .int F.fin 0)::Jy F L es clk rows m spr spf nr cr 5 7 8 x) 10
  (fun v t=> ∃es' clk' rows' spr' spf',Br es' (L++[s])/\sN m rows' (L++[s])/\v= .i (((L++[s]).idxOf s:Nat):Int)/\t=⟨[],Jy F (L++[s]) es' clk' rows' m spr' spf' nr cr 10 11 8 x,12⟩):=by
 have hst:=hF.st
 have hsl:=hs.len
 have hp:Wb s:=fun e he=>by have:=hs.rng e he;omega
 have hlk:=hnum.lk s hp
 have hes:=hnum.len
 have htl:=htab.len
 have hfl:=hF.finl
 have hnew:=hnum.new hp hin clk
 have htn:=htab.add hy hr
 rw[<-hes]at hnew
 rw[if_neg hin]at hlk
 have hidx:(L++[s]).idxOf s=es.length:=by rw[gW hin,hes];simp
 have hdok:DOk 10000000000000 s:=⟨by omega,fun e he=>by have:=hs.rng e he;omega⟩
 refine ctW Tryz.tyOk 13 [47,48,49] Tryz.func123 rfl (by simp) (by simp) (fr:= [(0,.c (.ptr 2 0)),(1,.c (.h ⟨ya,s.length,yc⟩))]) rfl ?_
 refine gO ?_
 refine Hg 6 [true] Tryz.call143 (by simp) ?_
 (conv=>whnf)
 have hks:=aCm x hx (aM m ya) yc (by rw[hr];exact hdok)
 rw[hr]at hks
 simp only[hr]
 refine aO (hks) [10,9] Tryz.call143 rfl (by simp[lU,hr]) (by simp[lU,hr]) (by simp) ?_
 rintro _ _ ⟨rfl,rfl⟩
 simp only[dN,Nat.reduceAdd,Nat.reduceSub]
 refine gI ?_
 refine⟨fun h=>?_,fun h _=>?_⟩
 ·rw[hlk]at h;cases h
 ·rename_i spr2
  have hap:lOp.appL (sub rows 0 rows.length) (sub [(⟨ya,s.length,yc⟩:Sli)] 0 1)=rows++[⟨ya,s.length,yc⟩]:=aV rows rows.length _ rfl
  simp only[Nat.reduceAdd,Nat.reduceSub]
  refine aJ (fun k:Nat=>⟨[(0,.c (.ptr 2 0)),(8,.i es.length),(9,.i ((s.take k).foldl (sC F) (-1))),(47,.c (.h ⟨ya,s.length,yc⟩)),(48,.i s.length),(49,.i k)],(0,.arr false 3 .int F.fin 0)::[(2,.box 150 (dC F 10 (rows++[(⟨ya,s.length,yc⟩:Sli)]).length ((rows++[(⟨ya,s.length,yc⟩:Sli)]).length+spr2) 0 0 7 (L.map (bQ F)).length ((L.map (bQ F)).length+spf) 8 nr cr)),(4,.map .str .int (@bL EK.str.ty EK.int.ty (EK.instDeq .str) es clk (bs (kyB s)) (es.length:Int)).1 (@bL EK.str.ty EK.int.ty (EK.instDeq .str) es clk (bs (kyB s)) (es.length:Int)).2),(10,.arr true 153 .sli (rows++[(⟨ya,s.length,yc⟩:Sli)]) spr2),(6,.pool 151 .duo m),(7,.arr true 3 .int (L.map (bQ F)) spf),(9,aF x)],11⟩)
   (fun k=>k<=s.length) (fun k=>s.length-k) 0 [(10,some 12)] ⟨by rfl,?_,?_⟩ (Nat.zero_le _) ?_
  ·simp
  ·simp[hap]
  ·intro k hk
   have hbk:=Rp hF.fin hB.1 (s.take k) (fun e he=>by have:=hs.rng e (List.mem_of_mem_take he);omega) (-1) (by omega)
   (conv=>whnf)
   refine aG (fun hk2=>?_) (fun hk2=>?_)
   ·have e0:0+(k:Int).toNat=k:=by omega
    have hks:=rZ (sC F) (-1) s ⟨0,0⟩ k (by omega)
    have hxr:=hs.rng _ (aB s k ⟨0,0⟩ (by omega))
    have hrl:(aM m ya).length=s.length:=by rw[hr]
    have hee:((aM m (⟨ya,s.length,yc⟩:Sli).a).getD (k:Int).toNat EK.duo.dflt)=s.getD k ⟨0,0⟩:=by
     show(aM m ya).getD (k:Int).toNat ⟨0,0⟩=_
     rw[hr,Int.toNat_natCast]
    have hxr1:(0<=((aM m (⟨ya,s.length,yc⟩:Sli).a).getD (k:Int).toNat EK.duo.dflt).a/\((aM m (⟨ya,s.length,yc⟩:Sli).a).getD (k:Int).toNat EK.duo.dflt).a<F.fin.length)/\0<=((aM m (⟨ya,s.length,yc⟩:Sli).a).getD (k:Int).toNat EK.duo.dflt).b/\((aM m (⟨ya,s.length,yc⟩:Sli).a).getD (k:Int).toNat EK.duo.dflt).b<=B:=by rw[hee];omega
    have hff: -1<=F.fin.getD (0+((aM m (⟨ya,s.length,yc⟩:Sli).a).getD (k:Int).toNat EK.duo.dflt).a.toNat) EK.int.dflt/\F.fin.getD (0+((aM m (⟨ya,s.length,yc⟩:Sli).a).getD (k:Int).toNat EK.duo.dflt).a.toNat) EK.int.dflt<=1000000000:=hF.fin _ (aB _ _ _ (by omega))
    have hks1:(s.take (k+1)).foldl (sC F) (-1)=if F.fin.getD (0+((aM m (⟨ya,s.length,yc⟩:Sli).a).getD (k:Int).toNat EK.duo.dflt).a.toNat) EK.int.dflt≠ -1/\((s.take k).foldl (sC F) (-1)= -1\/((aM m (⟨ya,s.length,yc⟩:Sli).a).getD (k:Int).toNat EK.duo.dflt).b+F.fin.getD (0+((aM m (⟨ya,s.length,yc⟩:Sli).a).getD (k:Int).toNat EK.duo.dflt).a.toNat) EK.int.dflt<(s.take k).foldl (sC F) (-1))then((aM m (⟨ya,s.length,yc⟩:Sli).a).getD (k:Int).toNat EK.duo.dflt).b+F.fin.getD (0+((aM m (⟨ya,s.length,yc⟩:Sli).a).getD (k:Int).toNat EK.duo.dflt).a.toNat) EK.int.dflt else(s.take k).foldl (sC F) (-1):=by
     rw[hks,hee,Nat.zero_add]
     rfl
    clear hks hxr
    generalize hrr:(s.take k).foldl (sC F) (-1)=r at*
    refine gO ?_
    refine⟨fun h=>⟨fun h=>?_,fun h=>⟨fun h=>?_,fun h=>?_⟩⟩,fun h=>?_⟩
    ·rename_i h2
     rw[if_pos ⟨h2,.inl h⟩]at hks1
     (conv=>whnf)
     refine⟨k+1,[],⟨by rfl,?_,?_⟩,by omega,by omega⟩
     ·simp[hks1]
     ·simp
    ·rename_i h2 h3
     rw[if_pos ⟨h2,.inr h⟩]at hks1
     (conv=>whnf)
     refine⟨k+1,[],⟨by rfl,?_,?_⟩,by omega,by omega⟩
     ·simp[hks1]
     ·simp
    ·rename_i h2 h3
     rw[if_neg (fun c=>c.2.elim h3 h)]at hks1
     (conv=>whnf)
     refine⟨k+1,[],⟨by rfl,?_,?_⟩,by omega,by omega⟩
     ·simp[hks1]
     ·simp
    ·rw[if_neg (fun c=>c.1 h)]at hks1
     (conv=>whnf)
     refine⟨k+1,[],⟨by rfl,?_,?_⟩,by omega,by omega⟩
     ·simp[hks1]
     ·simp
   ·have e:k=s.length:=by omega
    subst e
    rw[List.take_length]at hbk⊢
    have hfd:s.foldl (sC F) (-1)=bQ F s:=rfl
    rw[hfd]at hbk⊢
    refine gI fun _=>?_
    rename_i spf2
    refine⟨[(11,some 12)],Jy F (L++[s]) (@bL EK.str.ty EK.int.ty (EK.instDeq .str) es clk (bs (kyB s)) (es.length:Int)).1 (@bL EK.str.ty EK.int.ty (EK.instDeq .str) es clk (bs (kyB s)) (es.length:Int)).2 (rows++[(⟨ya,s.length,yc⟩:Sli)]) m spr2 spf2 nr cr 10 11 8 x,12,.i (es.length:Int),⟨by rfl,trivial,?_⟩,by simp,_,_,_,spr2,spf2,hnew,htn,by rw[hidx],rfl⟩
    simp[List.map_append]
    simp[aV]
end
def iO (F:TF):Nat->Nat->List Duo->Nat
 |0,_,_=>1
 |f+1,m,s=>(List.range 9).foldl (fun(n c:Nat)=>if n<=m/\sbB F s ((c:Int)+1)≠ -1 then n+iO F f (m-n) (sbS F s ((c:Int)+1))else n) 1
def dZ (F:TF) (f m:Nat) (s:List Duo) (k:Nat):Nat:=(List.range k).foldl (fun(n c:Nat)=>if n<=m/\sbB F s ((c:Int)+1)≠ -1 then n+iO F f (m-n) (sbS F s ((c:Int)+1))else n) 1
theorem fR (F:TF) (f m:Nat) (s:List Duo) (k:Nat):dZ F f m s (k+1)=if dZ F f m s k<=m/\sbB F s ((k:Int)+1)≠ -1 then dZ F f m s k+iO F f (m-dZ F f m s k) (sbS F s ((k:Int)+1))else dZ F f m s k:=by
 unfold dZ
 rw[List.range_succ,List.foldl_append]
 rfl
theorem Ep {F:TF} {f m:Nat} {s:List Duo} {k:Nat} (h:m<dZ F f m s k): ∀j,dZ F f m s (k+j)=dZ F f m s k
 |0=>rfl
 |j+1=>by
  have ih:=Ep h j
  rw[show k+(j+1)=(k+j)+1 by omega,fR,ih,if_neg (fun c=>by omega)]
theorem yB (F:TF): ∀(f m:Nat) (s:List Duo),iO F f m s<=m+1
 |0,m,s=>by unfold iO;omega
 |f+1,m,s=>by
  show dZ F f m s 9<=m+1
  have: ∀k,dZ F f m s k<=m+1:=by
   intro k
   induction k with
   |zero=>simp[dZ]
   |succ k ih=>
    rw[fR]
    split
    ·have:=yB F f (m-dZ F f m s k) (sbS F s ((k:Int)+1))
     omega
    ·exact ih
  exact this 9
theorem aBX (F:TF) (f m:Nat) (s:List Duo) (k:Nat):dZ F f m s k<=m+1:=by
 induction k with
 |zero=>simp[dZ]
 |succ k ih=>
  rw[fR]
  split
  ·have:=yB F f (m-dZ F f m s k) (sbS F s ((k:Int)+1))
   omega
  ·exact ih
theorem La (F:TF) (f m:Nat) (s:List Duo) (k:Nat):1<=dZ F f m s k:=by
 induction k with
 |zero=>simp[dZ]
 |succ k ih=>
  rw[fR]
  split<;>omega
theorem aDT (F:TF) (hF:WOk F) (nl cl nf cf nr cr:Nat) (ost osr:Int): ∀(f m:Nat) (s:List Duo) (B:Int) (cap:Nat),m<f->f<=1000->0<=B->B+f*1000000000<=10000000000000->SOk F B s->
  Ct Tryz.prog 122 [.c (.ptr 2 0),.c (.sl 3 2 0 s.length cap),.i m] [] [(1,.arr false 55 .arc F.arcs 0),(2,.box 150 (dC F 5 nl cl ost osr 7 nf cf 8 nr cr)),(3,.arr false 151 .duo s 0)] 9
  (fun v st=>v= .i (iO F f m s)/\st=⟨[],[(2,.box 150 (dC F 5 nl cl ost osr 7 nf cf 8 nr cr))],9⟩):=by
 intro f
 induction f with
 |zero=>intro m s B cap hm;omega
 |succ f ih=>
  intro m s B cap hm hf hB0 hB hs
  have hst:=hF.st
  have hsl:=hs.len
  have hBe:B<=10000000000000:=by omega
  refine ctW Tryz.tyOk 11 [] Tryz.func122 rfl (by simp) (by simp) (fr:= [(0,.c (.ptr 2 0)),(1,.c (.sl 3 2 0 s.length cap)),(2,.i m)]) rfl ?_
  refine gO ?_
  refine aJ (fun k:Nat=>⟨[(0,.c (.ptr 2 0)),(1,.c (.sl 3 2 0 s.length cap)),(2,.i m),(7,.i (dZ F f m s k)),(8,.i ((k:Int)+1))],[(1,.arr false 55 .arc F.arcs 0),(2,.box 150 (dC F 5 nl cl ost osr 7 nf cf 8 nr cr)),(3,.arr false 151 .duo s 0)],9⟩)
   (fun k=>k<=9) (fun k=>9-k) 0 [] ⟨by rfl,?_,?_⟩ (Nat.zero_le _) ?_
  ·simp[dZ]
  ·simp
  ·intro k hk
   have hle:=aBX F f m s k
   have hpo:=La F f m s k
   have hks:=fR F f m s k
   have hsk:=Mm (c:=(k:Int)+1) hs hB0 hst.1 hF.w
   have hend: ¬(k<=8/\dZ F f m s k<=m)->dZ F f m s k=iO F (f+1) m s:=by
    intro hc
    show _=dZ F f m s 9
    by_cases e:k=9
    ·rw[e]
    ·rw[<-Ep (by omega:m<dZ F f m s k) (9-k),show k+(9-k)=9 by omega]
   generalize hn:dZ F f m s k=n at hle hpo hks hend⊢
   refine gO ?_
   refine⟨fun h=>⟨fun h=>?_,fun h=>?_⟩,fun h=>?_⟩
   ·rename_i h2
    have hmn:((m-n:Nat):Int)=(m:Int)-n:=by omega
    (conv=>whnf)
    refine cF (aCj F hF s B ⟨hB0,hBe⟩ hs cap ((k:Int)+1) nl cl nf cf nr cr ost osr) [0,1,2,3,4,5,6,7,8] Tryz.call124 ?_
    rintro _ _ ⟨sp,rfl,rfl⟩
    generalize hsb:sbS F s ((k:Int)+1)=sb at*
    generalize hbb:sbB F s ((k:Int)+1)=bb at*
    refine gI ?_
    refine⟨fun h=>?_,fun h=>?_⟩
    ·rw[if_pos ⟨by omega,h⟩]at hks
     have hb:=yB F f (m-n) sb
     (conv=>whnf)
     refine aO (ih (m-n) sb (B+1000000000) (sb.length+sp) (by omega) (by omega) (by omega) (by omega) hsk.1) [0,1,2,9,4,5,6,7,8] Tryz.call122 rfl (by simp[hmn]) (by simp[hmn]) (by simp) ?_
     rintro _ _ ⟨rfl,rfl⟩
     refine gI ?_
     refine⟨k+1,[],⟨by rfl,?_,?_⟩,by omega,by omega⟩
     ·simp[hks]
     ·simp
    ·rw[if_neg (fun c=>c.2 h)]at hks
     (conv=>whnf)
     refine⟨k+1,[],⟨by rfl,?_,?_⟩,by omega,by omega⟩
     ·simp[hks]
     ·simp
   all_goals
    have hx:=hend (by omega)
    (conv=>whnf)
    refine⟨[],[(2,.box 150 (dC F 5 nl cl ost osr 7 nf cf 8 nr cr))],9,.i (iO F (f+1) m s),⟨by rfl,trivial,by simp⟩,by simp[hx],rfl,rfl⟩
abbrev DS:=List (List Duo)×List Arc
def stD (U:TF) (i:Nat) (st:DS) (c:Int):DS:=
 if sbB U (st.1.getD i []) c= -1 then st
 else(dV st.1 (sbS U (st.1.getD i []) c),st.2++[⟨(i:Nat),c,c,((dV st.1 (sbS U (st.1.getD i []) c)).idxOf (sbS U (st.1.getD i []) c):Nat),sbB U (st.1.getD i []) c⟩])
def jM (U:TF) (i:Nat) (st:DS) (k:Nat):DS:=(List.range k).foldl (fun(st:DS) (c:Nat)=>stD U i st ((c:Int)+1)) st
def bN (U:TF):Nat->DS
 |0=>([[⟨U.start,0⟩]],[])
 |i+1=>jM U i (bN U i) 9
theorem qB (U:TF) (i:Nat) (st:DS) (k:Nat):jM U i st (k+1)=stD U i (jM U i st k) ((k:Int)+1):=by
 unfold jM
 rw[List.range_succ,List.foldl_append]
 rfl
def jI (U:TF) (st:DS):Prop:= ∃k,bN U k=st/\k=st.1.length
def lF (U:TF):Nat->List Duo->List (List Duo)
 |0,s=> [s]
 |f+1,s=>s::(List.range 9).flatMap fun(c:Nat)=>if sbB U s ((c:Int)+1)≠ -1 then lF U f (sbS U s ((c:Int)+1))else []
theorem uU (U:TF) (f:Nat) (s:List Duo):s∈lF U f s:=by
 cases f<;>simp[lF]
theorem wH {F:TF} {f m:Nat} {s:List Duo} {j:Nat}: ∀ {k:Nat},j<=k->dZ F f m s j<=dZ F f m s k
 |0,h=>by rw[show j=0 by omega];exact Nat.le_refl _
 |k+1,h=>by
  by_cases e:j=k+1
  ·rw[e];exact Nat.le_refl _
  ·refine Nat.le_trans (wH (show j<=k by omega)) ?_
   rw[fR]
   split<;>omega
theorem xL (U:TF): ∀(f m:Nat) (s:List Duo),m<f->iO U f m s<=m->(lF U f s).length=iO U f m s/\ ∀t∈lF U f s,∀c:Nat,c<9->sbB U t ((c:Int)+1)≠ -1->sbS U t ((c:Int)+1)∈lF U f s
 |0,m,s,h,_=>by omega
 |f+1,m,s,h,hb=>by
  have hb9:dZ U f m s 9<=m:=hb
  have hpo:=La U f m s
  have hch: ∀c:Nat,c<9->sbB U s ((c:Int)+1)≠ -1->dZ U f m s c<=m/\iO U f (m-dZ U f m s c) (sbS U s ((c:Int)+1))<=m-dZ U f m s c/\dZ U f m s (c+1)=dZ U f m s c+iO U f (m-dZ U f m s c) (sbS U s ((c:Int)+1)):=by
   intro c hc hs
   have h1:=wH (F:=U) (f:=f) (m:=m) (s:=s) (j:=c) (k:=9) (by omega)
   have h2:=wH (F:=U) (f:=f) (m:=m) (s:=s) (j:=c+1) (k:=9) (by omega)
   have h3:=fR U f m s c
   rw[if_pos ⟨by omega,hs⟩]at h3
   exact⟨by omega,by omega,h3⟩
  have hlen: ∀k,k<=9->((List.range k).flatMap fun(c:Nat)=>if sbB U s ((c:Int)+1)≠ -1 then lF U f (sbS U s ((c:Int)+1))else []).length+1=dZ U f m s k:=by
   intro k
   induction k with
   |zero=>intro _;simp[dZ]
   |succ k ih=>
    intro hk
    rw[List.range_succ,List.flatMap_append,List.length_append]
    have:=ih (by omega)
    by_cases hs:sbB U s ((k:Int)+1)≠ -1
    ·obtain⟨g1,g2,g3⟩:=hch k (by omega) hs
     have hi:=(xL U f (m-dZ U f m s k) (sbS U s ((k:Int)+1)) (by have:=hpo k;omega) g2).1
     rw[g3]
     simp only[List.flatMap_cons,List.flatMap_nil,List.append_nil]
     rw[if_pos hs,hi]
     omega
    ·rw[fR,if_neg (fun c=>hs c.2)]
     simp only[List.flatMap_cons,List.flatMap_nil,List.append_nil]
     rw[if_neg hs]
     simpa using this
  refine⟨?_,fun t ht c hc hcb=>?_⟩
  ·have:=hlen 9 (Nat.le_refl _)
   show(s::_).length=dZ U f m s 9
   rw[List.length_cons]
   exact this
  ·have hin: ∀c:Nat,c<9->sbB U s ((c:Int)+1)≠ -1-> ∀t∈lF U f (sbS U s ((c:Int)+1)),t∈lF U (f+1) s:=by
    intro c hc hs t ht
    unfold lF
    rw[List.mem_cons,List.mem_flatMap]
    exact .inr ⟨c,List.mem_range.2 hc,by rw[if_pos hs];exact ht⟩
   unfold lF at ht
   rw[List.mem_cons,List.mem_flatMap]at ht
   rcases ht with rfl|⟨d,hd,ht⟩
   ·exact hin c hc hcb _ (uU _ _ _)
   ·have hd:=List.mem_range.1 hd
    by_cases hs:sbB U s ((d:Int)+1)≠ -1
    ·rw[if_pos hs]at ht
     obtain⟨g1,g2,g3⟩:=hch d hd hs
     exact hin d hd hs _ ((xL U f (m-dZ U f m s d) (sbS U s ((d:Int)+1)) (by have:=hpo d;omega) g2).2 t ht c hc hcb)
    ·rw[if_neg hs]at ht
     cases ht
theorem Je {α:Type}: ∀ {l m:List α},l.Nodup->(∀x∈l,x∈m)->l.length<=m.length
 | [],m,_,_=>Nat.zero_le _
 |x::l,m,hn,hs=>by
  rw[List.nodup_cons]at hn
  obtain⟨m1,m2,rfl⟩:=List.append_of_mem (hs x (by simp))
  have:l.length<=(m1++m2).length:=Je hn.2 fun y hy=>by
   have h:=hs y (by simp[hy])
   rw[List.mem_append,List.mem_cons]at h
   rw[List.mem_append]
   rcases h with h|rfl|h
   ·exact .inl h
   ·exact absurd hy hn.1
   ·exact .inr h
  simp only[List.length_append,List.length_cons]at this⊢
  omega
theorem aAY {F:TF} (hF: ∀a∈F.arcs,0<=a.t/\a.t<F.st) {s:List Duo} {c:Int}: ∀t v,(sbR F s c).1 t=some v->0<=t/\t<F.st:=by
 have h1: ∀(l:List Arc),(∀a∈l,0<=a.t/\a.t<F.st)-> ∀(x:Duo) (st:CM×Int),(∀t v,st.1 t=some v->0<=t/\t<F.st)-> ∀t v,(l.foldl (sbA c x) st).1 t=some v->0<=t/\t<F.st:=by
  intro l
  induction l with
  |nil=>intro _ x st h;exact h
  |cons a l ih=>
   intro hl x st h
   refine ih (fun a ha=>hl a (by simp[ha])) x _ fun t v hv=>?_
   unfold sbA at hv
   split at hv
   ·simp only[uS]at hv
    split at hv
    ·rename_i e;rw[e];exact hl a (by simp)
    ·exact h t v hv
   ·exact h t v hv
 have h2: ∀(l:List Duo) (st:CM×Int),(∀t v,st.1 t=some v->0<=t/\t<F.st)-> ∀t v,(l.foldl (sbX F c) st).1 t=some v->0<=t/\t<F.st:=by
  intro l
  induction l with
  |nil=>intro st h;exact h
  |cons e l ih=>intro st h;exact ih _ (h1 F.arcs hF e st h)
 exact h2 s _ fun t v h=>by cases h
theorem Xl {F:TF} {B:Int} {s:List Duo} {c:Int} (hs:SOk F B s) (hB:0<=B) (hw: ∀a∈F.arcs,0<=a.w/\a.w<=1000000000) (hF: ∀a∈F.arcs,0<=a.t/\a.t<F.st) (h:sbB F s c≠ -1):sbS F s c≠ []:=by
 have hb:=Mn (c:=c) hs hB hw s.length
 rw[List.take_length]at hb
 obtain⟨t,ht⟩:=hb.e h
 have hk:=aAY hF (s:=s) (c:=c) t _ ht
 have:(⟨t.toNat,(sbR F s c).2-(sbR F s c).2⟩:Duo)∈sbS F s c:=Fj.2 ⟨t.toNat,(sbR F s c).2,by omega,by rw[show((t.toNat:Nat):Int)=t by omega];exact ht,rfl⟩
 intro e
 rw[e]at this
 cases this
structure qU (U:TF) (T:List (List Duo)) (i:Nat) (st:DS):Prop where
 sub: ∀s∈st.1,s∈T
 nd:st.1.Nodup
 ok: ∀j,j<st.1.length->SOk U ((j:Int)*1000000000) (st.1.getD j [])
 ne: ∀s∈st.1,s≠ []
 len:i<=st.1.length/\1<=st.1.length
 raw: ∀a∈st.2,(0<=a.f/\a.f<st.1.length)/\(0<=a.t/\a.t<st.1.length)
theorem Jd {L:List (List Duo)} {s:List Duo}:s∈dV L s:=by
 unfold dV
 split
 ·assumption
 ·simp
theorem tQ (L:List (List Duo)) (s:List Duo):L.length<=(dV L s).length/\(dV L s).length<=L.length+1:=by
 unfold dV
 split
 ·omega
 ·rw[List.length_append];exact⟨Nat.le_add_right _ _,Nat.le_refl _⟩
theorem zG {L:List (List Duo)} {s:List Duo} {j:Nat} (h:j<L.length):(dV L s).getD j []=L.getD j []:=by
 unfold dV
 split
 ·rfl
 ·simp only[List.getD]
  rw[List.getElem?_append_left h]
theorem qU.step {U:TF} {T:List (List Duo)} {i:Nat} {st:DS} (h:qU U T i st) (hi:i<st.1.length) (hU:0<=U.st) (hw: ∀a∈U.arcs,0<=a.w/\a.w<=1000000000) (hr: ∀a∈U.arcs,0<=a.t/\a.t<U.st)
  (hT: ∀t∈T,∀c:Nat,c<9->sbB U t ((c:Int)+1)≠ -1->sbS U t ((c:Int)+1)∈T) {c:Nat} (hc:c<9):qU U T i (stD U i st ((c:Int)+1))/\st.1.length<=(stD U i st ((c:Int)+1)).1.length/\(stD U i st ((c:Int)+1)).2.length<=st.2.length+1:=by
 unfold stD
 have hm:=aB st.1 i [] hi
 have hok:=h.ok i hi
 by_cases hb:sbB U (st.1.getD i []) ((c:Int)+1)= -1
 ·rw[if_pos hb]
  exact⟨h,Nat.le_refl _,Nat.le_succ _⟩
 ·rw[if_neg hb]
  generalize hs:st.1.getD i []=s at*
  have hsT:=hT s (h.sub s hm) c hc hb
  have hsok:=(Mm (c:=(c:Int)+1) hok (by omega) hU hw).1
  have hsne:=Xl hok (by omega) hw hr hb
  generalize sbS U s ((c:Int)+1)=t at*
  have hl:=tQ st.1 t
  refine⟨⟨fun x hx=>?_,?_,fun j hj=>?_,fun x hx=>?_,⟨by simp only;have:=h.len.1;omega,by simp only;have:=h.len.2;omega⟩,fun a ha=>?_⟩,hl.1,by simp⟩
  ·simp only[dV]at hx
   split at hx
   ·exact h.sub x hx
   ·rw[List.mem_append,List.mem_singleton]at hx
    rcases hx with hx|rfl
    ·exact h.sub x hx
    ·exact hsT
  ·simp only[dV]
   split
   ·exact h.nd
   ·rename_i hn
    rw[List.nodup_append]
    refine⟨h.nd,by simp,fun a ha b hb=>?_⟩
    rw[List.mem_singleton]at hb
    exact fun e=>hn (by rw[<-hb,<-e];exact ha)
  ·simp only at hj⊢
   by_cases hj2:j<st.1.length
   ·rw[zG hj2];exact h.ok j hj2
   ·have e:j=st.1.length:=by omega
    have:t∉st.1:=fun c=>by simp only[dV,if_pos c]at hj;omega
    have e2:(dV st.1 t).getD j []=t:=by
     simp only[dV,if_neg this,List.getD,e]
     simp
    rw[e2]
    refine hsok.mono ?_
    omega
  ·simp only[dV]at hx
   split at hx
   ·exact h.ne x hx
   ·rw[List.mem_append,List.mem_singleton]at hx
    rcases hx with hx|rfl
    ·exact h.ne x hx
    ·exact hsne
  ·simp only[List.mem_append,List.mem_singleton]at ha⊢
   rcases ha with ha|rfl
   ·have:=h.raw a ha
    omega
   ·have:=List.idxOf_lt_length_of_mem (Jd (L:=st.1) (s:=t))
    simp only
    omega
theorem qU.start {U:TF} {T:List (List Duo)} (hs:0<=U.start/\U.start<U.st) (hT: [⟨U.start,0⟩]∈T):qU U T 0 (bN U 0):=by
 refine⟨fun s h=>?_,by simp[bN],fun j hj=>?_,fun s h=>?_,by simp[bN],fun a ha=>by simp[bN]at ha⟩
 ·simp only[bN,List.mem_singleton]at h
  rw[h];exact hT
 ·simp only[bN,List.length_cons,List.length_nil]at hj
  have:j=0:=by omega
  subst this
  refine⟨?_,fun e he=>?_⟩
  ·simp[bN];omega
  ·simp[bN]at he
   subst he
   simp only
   omega
 ·simp only[bN,List.mem_singleton]at h
  rw[h];simp
def kpB (m1 m2:List Bool) (j:Nat):Bool:=m1.getD j false&&m2.getD j false
theorem xW (m1 m2:List Bool) (n1 n2:Nat) (hn1:n1=m1.length) (hn2:n2=m2.length) (x:Int) (hx:0<=x) (h1:x<m1.length) (h2:x<m2.length):
  Ct Tryz.prog 99 [.i x,.c (.ptr 2 0),.c (.ptr 3 0)] [] [(0,.arr false 4 .bool m1 0),(1,.arr false 4 .bool m2 0),(2,.box 62 [.sl 0 1 0 n1 n1]),(3,.box 62 [.sl 1 1 0 n2 n2])] 4
  (fun v s=>v= .b (kpB m1 m2 x.toNat)/\s=⟨[],[(2,.box 62 [.sl 0 1 0 n1 n1]),(3,.box 62 [.sl 1 1 0 n2 n2])],4⟩):=by
 subst hn1 hn2
 refine ctW Tryz.tyOk 5 [] Tryz.func99 rfl (by simp) (by simp) (fr:= [(0,.i x),(1,.c (.ptr 2 0)),(2,.c (.ptr 3 0))]) rfl ?_
 refine gO ?_
 refine⟨fun h=>?_,fun h=>?_⟩
 all_goals
  (conv=>whnf)
  refine⟨[],[(2,.box 62 [.sl 0 1 0 m1.length m1.length]),(3,.box 62 [.sl 1 1 0 m2.length m2.length])],4,.b (kpB m1 m2 x.toNat),⟨by rfl,trivial,by simp⟩,?_,rfl,rfl⟩
  simp_all[eqV,eqA,eqC,kpB,EK.dflt]
def lM (st start:Int) (fin:List Int) (arcs:List Arc) (n:Nat) (v:SV) (s:S):Prop:= ∃sp sq,v= .a (.agg [.i st,.i start,.sl n 1 0 fin.length (fin.length+sp),.sl (n+1) 5 0 arcs.length (arcs.length+sq)])/\s=⟨[],[(n,.arr true 3 .int fin sp),(n+1,.arr true 55 .arc arcs sq)],n+2⟩
theorem Dh:Ct Tryz.prog 127 [] [] [] 0 (lM 1 0 [-1] [] 0):=by
 refine ctW Tryz.tyOk 1 [] Tryz.func127 rfl (by simp) (by simp) (fr:= []) rfl ?_
 refine gO ?_
 exact⟨[(0,some 1),(1,none)],[(0,.arr true 3 .int [-1] 0),(1,.arr true 55 .arc [] 0)],2,.a (.agg [.i 1,.i 0,.sl 0 1 0 1 1,.sl 1 5 0 0 0]),⟨by rfl,trivial,by simp[cT]⟩,by simp,0,0,rfl,rfl⟩
def rkB (p:Nat->Bool):Nat->Nat
 |0=>0
 |k+1=>if p k=true then rkB p k+1 else rkB p k
def bY (p:Nat->Bool) (fin:List Int):Nat->List Int
 |0=> []
 |k+1=>if p k=true then bY p fin k++[fin.getD k 0]else bY p fin k
theorem iM (p:Nat->Bool) (fin:List Int): ∀k,(bY p fin k).length=rkB p k
 |0=>rfl
 |k+1=>by
  have:=iM p fin k
  unfold bY rkB
  split<;>simp[this]
theorem uZ (p:Nat->Bool): ∀k,rkB p k<=k
 |0=>Nat.le_refl _
 |k+1=>by
  have:=uZ p k
  unfold rkB
  split<;>omega
def jN (p:Nat->Bool) (a:Arc):Arc:=⟨(rkB p a.f.toNat:Nat),a.i,a.o,(rkB p a.t.toNat:Nat),a.w⟩
def kOk (p:Nat->Bool) (a:Arc):Bool:=p a.f.toNat&&p a.t.toNat
def bW (p:Nat->Bool) (l:List Arc):Nat->List Arc
 |0=> []
 |k+1=>if kOk p (l.getD k aD)=true then bW p l k++[jN p (l.getD k aD)]else bW p l k
theorem iN (p:Nat->Bool) (l:List Arc): ∀k,(bW p l k).length<=k
 |0=>Nat.le_refl _
 |k+1=>by
  have:=iN p l k
  unfold bW
  split
  ·simp;omega
  ·omega
abbrev LkI (es:List (Int×Int×Nat)) (p:Nat->Bool) (k:Nat):Prop:= ∀j:Int,0<=j->j<k->p j.toNat=true-> @lkM EK.int.ty EK.int.ty (EK.instDeq .int) es j=some ((rkB p j.toNat:Nat):Int)
def pB (F:TF) (p:Nat->Bool) (n:Nat) (v:SV) (s:S):Prop:=
 if p F.start.toNat=true then lM (rkB p F.st.toNat:Nat) (rkB p F.start.toNat:Nat) (bY p F.fin F.st.toNat) (bW p F.arcs F.arcs.length) n v s else lM 1 0 [-1] [] n v s
abbrev aCW (F:TF) (m1 m2:List Bool) (n1 n2:Nat):List (Nat×SO):= [(0,.arr false 3 .int F.fin 0),(1,.arr false 55 .arc F.arcs 0),(2,.arr false 4 .bool m1 0),(3,.arr false 4 .bool m2 0),(4,.box 62 [.sl 2 1 0 n1 n1]),(5,.box 62 [.sl 3 1 0 n2 n2])]
theorem aCS (F:TF) (hF:FRng F) (hs:0<=F.start/\F.start<F.st) (m1 m2:List Bool) (n1 n2:Nat) (hn1:n1=m1.length) (hn2:n2=m2.length) (hm1:(m1.length:Int)=F.st) (hm2:(m2.length:Int)=F.st):
  Ct Tryz.prog 98 [fV F,.c (.fn 99 [(4,0),(5,0)])] [] (aCW F m1 m2 n1 n2) 6 (pB F (kpB m1 m2) 6):=by
 have hst:=hF.st
 have hal:=hF.arcl
 have hfl:=hF.finl
 generalize hp:kpB m1 m2=p
 refine ctW Tryz.tyOk 10 [13,14,51,52,53] Tryz.func98 rfl (by simp;omega) (by simp) (fr:= [(0,fV F),(1,.c (.fn 99 [(4,0),(5,0)]))]) rfl ?_
 refine gO ?_
 refine aJ (fun z:Nat×Nat×List (Int×Int×Nat)×Nat=>⟨[(1,.c (.fn 99 [(4,0),(5,0)])),(2,.c (.ptr 6 0)),(4,.c (.ptr 7 0)),(5,.c (.mp 8)),(6,.c (.ptr 9 0)),(13,.i F.st),(14,.i z.1)],
   aCW F m1 m2 n1 n2++[(6,.box 25 (aA F)),(7,.box 25 [.i 0,.i 0,.v (.slice none 0 0),.v (.slice none 0 0)]),(8,.map .int .int z.2.2.1 z.2.2.2),(9,.box 25 [.i (rkB p z.1),.i 0,.sl 10 1 0 (bY p F.fin z.1).length ((bY p F.fin z.1).length+z.2.1),.v (.slice none 0 0)]),(10,.arr true 3 .int (bY p F.fin z.1) z.2.1)],11⟩)
  (fun z=>(z.1:Int)<=F.st/\LkI z.2.2.1 p z.1) (fun z=>F.st.toNat-z.1) (0,0,[],0) [(10,none)] ⟨by rfl,?_,?_⟩ ⟨by simp only;omega,fun j h0 h1=>by simp only at h1;omega⟩ ?_
 ·simp
 ·simp[aA,cT,rkB,bY]
 ·rintro⟨k,sp,es,clk⟩ ⟨hk,hlk⟩
  simp only at hk hlk⊢
  have hkl:=iM p F.fin k
  have hrk:=uZ p k
  generalize hpl:bY p F.fin k=pl at hkl⊢
  refine gO ?_
  refine⟨fun h=>?_,fun h=>?_⟩
  ·have hk1:F.st.toNat-(k+1)<F.st.toNat-k:=by omega
   (conv=>whnf)
   refine cF (xW m1 m2 n1 n2 hn1 hn2 (k:Int) (by omega) (by omega) (by omega)) [2,3,4,5] Tryz.call99 ?_
   rintro _ _ ⟨rfl,rfl⟩
   have e0:0+(k:Int).toNat=k:=by omega
   rw[hp,Int.toNat_natCast]
   by_cases hpk:p k=true
   ·have hr2:rkB p (k+1)=rkB p k+1:=by show(if p k=true then _ else _)=_;rw[if_pos hpk]
    have hkf:bY p F.fin (k+1)=pl++[F.fin.getD k 0]:=by show(if p k=true then _ else _)=_;rw[if_pos hpk,hpl]
    rw[hpk]
    refine gI fun _=>?_
    rename_i sp2
    refine⟨(k+1,sp2,(@bL EK.int.ty EK.int.ty (EK.instDeq .int) es clk (k:Int) ((rkB p k:Nat):Int)).1,(@bL EK.int.ty EK.int.ty (EK.instDeq .int) es clk (k:Int) ((rkB p k:Nat):Int)).2),[(10,some 12)],⟨by rfl,?_,?_⟩,⟨by simp only;omega,fun j h0 h1 hj=>?_⟩,by simp only;omega⟩
    ·simp
    ·simp[hkf,hr2,EK.dflt,e0,aA]
     simp[aV]
    ·rw[fZ]
     by_cases ej:j=k
     ·rw[if_pos ej,ej,Int.toNat_natCast]
     ·rw[if_neg ej]
      exact hlk j h0 (by simp only at h1;omega) hj
   ·have hr2:rkB p (k+1)=rkB p k:=by show(if p k=true then _ else _)=_;rw[if_neg hpk]
    have hkf:bY p F.fin (k+1)=pl:=by show(if p k=true then _ else _)=_;rw[if_neg hpk,hpl]
    have hpk2:p k=false:=by simpa using hpk
    rw[hpk2]
    refine gI ?_
    refine⟨(k+1,sp,es,clk),[],⟨by rfl,?_,?_⟩,⟨by simp only;omega,fun j h0 h1 hj=>?_⟩,by simp only;omega⟩
    ·simp
    ·simp[hkf,hr2,aA]
    ·by_cases ej:j=k
     ·rw[ej,Int.toNat_natCast,hpk2]at hj;cases hj
     ·exact hlk j h0 (by simp only at h1;omega) hj
  ·have e:k=F.st.toNat:=by omega
   subst e
   subst hpl
   refine gO ?_
   refine cF (xW m1 m2 n1 n2 hn1 hn2 F.start (by omega) (by omega) (by omega)) [2,3,4,5] Tryz.call99 ?_
   rintro _ _ ⟨rfl,rfl⟩
   rw[hp]
   by_cases hps:p F.start.toNat=true
   ·have hl0:=hlk F.start hs.1 (by omega) hps
    rw[hps]
    refine gI ?_
    refine aJ (fun z:Nat×Nat=>⟨[(1,.c (.fn 99 [(4,0),(5,0)])),(2,.c (.ptr 6 0)),(4,.c (.ptr 7 0)),(5,.c (.mp 8)),(6,.c (.ptr 9 0)),(51,.c (.sl 1 5 0 F.arcs.length F.capA)),(52,.i F.arcs.length),(53,.i z.1)],
      aCW F m1 m2 n1 n2++[(6,.box 25 (aA F)),(7,.box 25 [.i 0,.i 0,.v (.slice none 0 0),.v (.slice none 0 0)]),(8,.map .int .int es clk),(9,.box 25 [.i (rkB p F.st.toNat),.i (rkB p F.start.toNat),.sl 10 1 0 (bY p F.fin F.st.toNat).length ((bY p F.fin F.st.toNat).length+sp),.sl 11 5 0 (bW p F.arcs z.1).length ((bW p F.arcs z.1).length+z.2)]),(10,.arr true 3 .int (bY p F.fin F.st.toNat) sp),(11,.arr true 55 .arc (bW p F.arcs z.1) z.2)],12⟩)
     (fun z=>z.1<=F.arcs.length) (fun z=>F.arcs.length-z.1) (0,0) [(11,none)] ⟨by rfl,?_,?_⟩ (Nat.zero_le _) ?_
    ·simp
    ·simp[aA,cT,bW,hl0]
    ·rintro⟨k,sq⟩ hk2
     simp only at hk2⊢
     have hlen:=iN p F.arcs k
     refine gO ?_
     refine⟨fun h=>?_,fun h=>?_⟩
     ·have e0:0+(k:Int).toNat=k:=by omega
      have hb:=hF.arc _ (aB F.arcs k aD (by omega))
      rw[<-e0]at hb
      generalize hax:F.arcs.getD (0+(k:Int).toNat) aD=ax at hb
      have hax0:F.arcs.getD k aD=ax:=by rw[<-hax,e0]
      have hax2:F.arcs.getD (0+(k:Int).toNat) EK.arc.dflt=ax:=hax
      rw[hax2]
      (conv=>whnf)
      refine cF (xW m1 m2 n1 n2 hn1 hn2 ax.f (by omega) (by omega) (by omega)) [2,3,4,5] Tryz.call99 ?_
      rintro _ _ ⟨rfl,rfl⟩
      rw[hp]
      have hks:bW p F.arcs (k+1)=if kOk p ax=true then bW p F.arcs k++[jN p ax]else bW p F.arcs k:=by
       show(if kOk p (F.arcs.getD k aD)=true then _ else _)=_
       rw[hax0]
      by_cases hpf:p ax.f.toNat=true
      ·rw[hpf]
       refine gI ?_
       refine cF (xW m1 m2 n1 n2 hn1 hn2 ax.t (by omega) (by omega) (by omega)) [2,3,4,5] Tryz.call99 ?_
       rintro _ _ ⟨rfl,rfl⟩
       rw[hp]
       by_cases hpt:p ax.t.toNat=true
       ·rw[hpt]
        have hl1:=hlk ax.f hb.1 (by omega) hpf
        have hl2:=hlk ax.t hb.2.2.1 (by omega) hpt
        rw[if_pos (by unfold kOk;rw[hpf,hpt];rfl)]at hks
        refine gI fun _=>?_
        rename_i sp2
        rw[hl1,hl2]
        refine⟨(k+1,sp2),[(11,some 14)],⟨by rfl,?_,?_⟩,by simp only;omega,by simp only;omega⟩
        ·simp
        ·simp[hks,aA]
         exact(aV (bW p F.arcs k) _ (jN p ax) rfl).symm
       ·have hpt2:p ax.t.toNat=false:=by simpa using hpt
        rw[hpt2]
        rw[if_neg (by unfold kOk;rw[hpt2];simp)]at hks
        refine gI ?_
        refine⟨(k+1,sq),[],⟨by rfl,?_,?_⟩,by simp only;omega,by simp only;omega⟩
        ·simp
        ·simp[hks,aA]
      ·have hpf2:p ax.f.toNat=false:=by simpa using hpf
       rw[hpf2]
       rw[if_neg (by unfold kOk;rw[hpf2];simp)]at hks
       refine gI ?_
       refine⟨(k+1,sq),[],⟨by rfl,?_,?_⟩,by simp only;omega,by simp only;omega⟩
       ·simp
       ·simp[hks,aA]
     ·have e:k=F.arcs.length:=by omega
      subst e
      refine gI ?_
      refine⟨[(6,some 10),(7,some 11)],[(6,.arr true 3 .int (bY p F.fin F.st.toNat) sp),(7,.arr true 55 .arc (bW p F.arcs F.arcs.length) sq)],8,.a (.agg [.i (rkB p F.st.toNat:Nat),.i (rkB p F.start.toNat:Nat),.sl 6 1 0 (bY p F.fin F.st.toNat).length ((bY p F.fin F.st.toNat).length+sp),.sl 7 5 0 (bW p F.arcs F.arcs.length).length ((bW p F.arcs F.arcs.length).length+sq)]),⟨by rfl,trivial,by simp⟩,by simp,?_⟩
      unfold pB
      rw[if_pos hps]
      exact⟨sp,sq,rfl,rfl⟩
   ·have hpk2:p F.start.toNat=false:=by simpa using hps
    rw[hpk2]
    refine gI ?_
    refine cF (Dh) [] Tryz.call127 ?_
    rintro _ _ ⟨sp3,sq3,rfl,rfl⟩
    refine gI ?_
    refine⟨[(6,some 11),(7,some 12)],[(6,.arr true 3 .int [-1] sp3),(7,.arr true 55 .arc [] sq3)],8,.a (.agg [.i 1,.i 0,.sl 6 1 0 [(-1:Int)].length ([(-1:Int)].length+sp3),.sl 7 5 0 ([]:List Arc).length (([]:List Arc).length+sq3)]),⟨by rfl,trivial,by simp⟩,by simp,?_⟩
    unfold pB
    rw[if_neg hps]
    exact⟨sp3,sq3,rfl,rfl⟩
def kT (F:TF) (p:Nat->Bool):TF:=if p F.start.toNat=true then⟨(rkB p F.st.toNat:Nat),(rkB p F.start.toNat:Nat),bY p F.fin F.st.toNat,bW p F.arcs F.arcs.length,0,0⟩else⟨1,0,[-1],[],0,0⟩
theorem Gm {F:TF} {p:Nat->Bool} {n:Nat} {v:SV} {s:S}:pB F p n v s <-> lM (kT F p).st (kT F p).start (kT F p).fin (kT F p).arcs n v s:=by
 unfold pB kT
 split<;>exact Iff.rfl
structure nH (F:TF) (p:Nat->Bool):Prop where
 iff: ∀j,j<F.st.toNat->(p j=true <-> Rch F.arcs false [F.start] j/\ ∃e:Nat,e<F.st.toNat/\F.fin.getD e 0≠ -1/\Rch F.arcs true [(e:Int)] j)
def mD (fin:List Int):Nat->List Int
 |0=> []
 |k+1=>if fin.getD k 0≠ -1 then mD fin k++[(k:Int)]else mD fin k
theorem Kn (fin:List Int): ∀k,(mD fin k).length<=k
 |0=>Nat.le_refl _
 |k+1=>by
  have:=Kn fin k
  unfold mD
  split
  ·simp;omega
  ·omega
theorem iK {fin:List Int} {x:Int}: ∀k,x∈mD fin k <-> ∃e:Nat,e<k/\fin.getD e 0≠ -1/\x=e
 |0=>by simp[mD]
 |k+1=>by
  have ih:=iK (fin:=fin) (x:=x) k
  unfold mD
  split
  ·rename_i h
   rw[List.mem_append,ih,List.mem_singleton]
   constructor
   ·rintro(⟨e,h1,h2⟩|rfl)
    ·exact⟨e,by omega,h2⟩
    ·exact⟨k,by omega,h,rfl⟩
   ·rintro⟨e,h1,h2,h3⟩
    by_cases q:e=k
    ·subst q;exact .inr h3
    ·exact .inl ⟨e,by omega,h2,h3⟩
  ·rename_i h
   rw[ih]
   constructor
   ·rintro⟨e,h1,h2⟩
    exact⟨e,by omega,h2⟩
   ·rintro⟨e,h1,h2,h3⟩
    by_cases q:e=k
    ·subst q;exact absurd h2 h
    ·exact⟨e,by omega,h2,h3⟩
theorem yV {l:List Arc} {bk:Bool} {first:List Int} {x:Int}:Rch l bk first x <-> ∃e∈first,Rch l bk [e] x:=by
 constructor
 ·intro h
  induction h with
  |here h=>exact⟨_,h,.here (by simp)⟩
  |on h ha hs ih=>
   obtain⟨e,he,hr⟩:=ih
   exact⟨e,he,.on hr ha hs⟩
 ·rintro⟨e,he,h⟩
  induction h with
  |here h=>rw[List.mem_singleton]at h;subst h;exact .here he
  |on h ha hs ih=>exact .on ih ha hs
theorem nZ (F:TF) (hF:FRng F) (hs:0<=F.start/\F.start<F.st):
  Ct Tryz.prog 48 [fV F] [] (hpF F) 2 (fun v s=> ∃p,nH F p/\lM (kT F p).st (kT F p).start (kT F p).fin (kT F p).arcs 2 v s):=by
 have hst:=hF.st
 have hal:=hF.arcl
 have hfl:=hF.finl
 refine ctW Tryz.tyOk 8 [9,10,11] Tryz.func48 rfl (by simp) (by simp) (fr:= [(0,fV F)]) rfl ?_
 refine gO ?_
 refine aJ (fun z:Nat×Nat=>⟨[(1,.c (.ptr 2 0)),(2,.c (.ptr 3 0)),(3,.c (.sl 4 1 0 (mD F.fin z.1).length ((mD F.fin z.1).length+z.2))),(9,.c (.sl 0 1 0 F.fin.length F.capF)),(10,.i F.fin.length),(11,.i z.1)],
   hpF F++[(2,.box 25 (aA F)),(3,.box 25 [.i 0,.i 0,.v (.slice none 0 0),.v (.slice none 0 0)]),(4,.arr true 3 .int (mD F.fin z.1) z.2)],5⟩)
  (fun z=>z.1<=F.fin.length) (fun z=>F.fin.length-z.1) (0,0) [(4,none)] ⟨by rfl,?_,?_⟩ (Nat.zero_le _) ?_
 ·simp[mD,cT]
 ·simp[aA,cT,mD]
 ·rintro⟨k,sp⟩ hk
  simp only at hk⊢
  have hkl:=Kn F.fin k
  have e0:0+(k:Int).toNat=k:=by omega
  have hks:mD F.fin (k+1)=if F.fin.getD k 0≠ -1 then mD F.fin k++[(k:Int)]else mD F.fin k:=rfl
  refine gD ?_
  refine⟨fun h=>⟨fun h=>?_,fun h=>?_⟩,fun h=>?_⟩
  ·have h3:F.fin.getD k 0≠ -1:=e0▸h
   rw[if_pos h3]at hks
   intro sp2
   refine gD ?_
   refine⟨(k+1,sp2),[(4,some 6)],⟨by rfl,?_,?_⟩,by simp only;omega,by simp only;omega⟩
   ·simp[hks]
   ·simp[hks,aA]
    exact(aV (mD F.fin k) _ (k:Int) rfl).symm
  ·have h3:F.fin.getD k 0= -1:=e0▸h
   rw[if_neg (by simpa using h3)]at hks
   (conv=>whnf)
   refine⟨(k+1,sp),[],⟨by rfl,?_,?_⟩,by simp only;omega,by simp only;omega⟩
   ·simp[hks]
   ·simp[hks,aA]
  ·have e:k=F.fin.length:=by omega
   subst e
   have hst2:(F.st.toNat:Int)=F.st:=by omega
   have hn2:F.fin.length=F.st.toNat:=by omega
   have hx1: ∀x∈ [F.start],0<=x/\x<(F.st.toNat:Nat):=fun x hx=>by rw[List.mem_singleton]at hx;subst hx;omega
   have hx2: ∀x∈mD F.fin F.fin.length,0<=x/\x<(F.st.toNat:Nat):=fun x hx=>by
    obtain⟨e,h1,h2,rfl⟩:=(iK _).1 hx
    omega
   (conv=>whnf)
   refine jO (fun z:List Bool×List Bool=>⟨[(1,.c (.ptr 2 0)),(2,.c (.ptr 3 0)),(6,.c (.ptr 6 0)),(7,.c (.ptr 7 0))],
    hpF F++[(2,.box 25 (aA F)),(3,.box 25 [.i 0,.i 0,.v (.slice none 0 0),.v (.slice none 0 0)]),(4,.arr true 4 .bool z.1 0),(5,.arr true 4 .bool z.2 0),(6,.box 62 [.sl 4 1 0 z.1.length z.1.length]),(7,.box 62 [.sl 5 1 0 z.2.length z.2.length])],8⟩)
    (fun z=>z.1.length=F.st.toNat/\z.2.length=F.st.toNat/\(∀j,j<F.st.toNat->(z.1.getD j false=true <-> Rch F.arcs false [F.start] j))/\ ∀j,j<F.st.toNat->(z.2.getD j false=true <-> Rch F.arcs true (mD F.fin F.fin.length) j)) ?_ ?_
   ·refine gO ?_
    refine⟨⟨?_,⟨?_,?_⟩,?_,?_⟩,⟨⟨?_,?_⟩,?_⟩,⟨?_,?_⟩,?_⟩
    all_goals
     (conv=>whnf)
     first
     |(refine aO (qD F hF [F.start] 0 false hx1 (by simp)) [0,1,5] Tryz.call97 rfl ?_ ?_ ?_ ?_;(focus (simp;done));(focus (simp;done));(focus (simp;done)))
     |(refine aO (qD F hF [F.start] 0 false hx1 (by simp)) [0,1,6] Tryz.call97 rfl ?_ ?_ ?_ ?_;(focus (simp;done));(focus (simp;done));(focus (simp;done)))
     |(refine aO (qD F hF [F.start] 0 false hx1 (by simp)) [0,1,7] Tryz.call97 rfl ?_ ?_ ?_ ?_;(focus (simp;done));(focus (simp;done));(focus (simp;done)))
     rintro _ _ ⟨m1,rfl,rfl,hl1,hr1⟩
     repeat' (first|exact rfl|((conv=>whnf);first|(refine qX (fun h=>?_) fun h=>?_<;>try exact absurd h (by omega))|refine oN ?_|refine oM ?_ ?_|refine bM ?_ ?_|refine dR ?_))
     all_goals
      (conv=>whnf)
      refine cF (qD F hF (mD F.fin F.fin.length) sp true hx2 (by omega)) [0,1,4] Tryz.call97 ?_
      rintro _ _ ⟨m2,rfl,rfl,hl2,hr2⟩
      repeat' (first|exact rfl|((conv=>whnf);first|(refine qX (fun h=>?_) fun h=>?_<;>try exact absurd h (by omega))|refine oN ?_|refine oM ?_ ?_|refine bM ?_ ?_|refine dR ?_))
      all_goals
       (conv=>whnf)
       first
       |(refine⟨(m1,m2),[(4,some 8),(5,some 9),(6,some 5),(7,some 6)],⟨by rfl,?_,?_⟩,hl1,hl2,hr1,hr2⟩;(focus (simp;done));(simp[aA];done))
       |(refine⟨(m1,m2),[(4,some 8),(5,some 9),(6,some 5),(7,some 7)],⟨by rfl,?_,?_⟩,hl1,hl2,hr1,hr2⟩;(focus (simp;done));(simp[aA];done))
       |(refine⟨(m1,m2),[(4,some 7),(5,some 9),(6,some 5),(7,some 8)],⟨by rfl,?_,?_⟩,hl1,hl2,hr1,hr2⟩;(focus (simp;done));(simp[aA];done))
       |(refine⟨(m1,m2),[(4,some 7),(5,some 8),(6,some 5),(7,some 9)],⟨by rfl,?_,?_⟩,hl1,hl2,hr1,hr2⟩;(focus (simp;done));(simp[aA];done))
       |(refine⟨(m1,m2),[(4,some 8),(5,some 9),(6,some 6),(7,some 5)],⟨by rfl,?_,?_⟩,hl1,hl2,hr1,hr2⟩;(focus (simp;done));(simp[aA];done))
       |(refine⟨(m1,m2),[(4,some 8),(5,some 9),(6,some 6),(7,some 7)],⟨by rfl,?_,?_⟩,hl1,hl2,hr1,hr2⟩;(focus (simp;done));(simp[aA];done))
       |(refine⟨(m1,m2),[(4,some 7),(5,some 9),(6,some 6),(7,some 8)],⟨by rfl,?_,?_⟩,hl1,hl2,hr1,hr2⟩;(focus (simp;done));(simp[aA];done))
       |(refine⟨(m1,m2),[(4,some 7),(5,some 8),(6,some 6),(7,some 9)],⟨by rfl,?_,?_⟩,hl1,hl2,hr1,hr2⟩;(focus (simp;done));(simp[aA];done))
       |(refine⟨(m1,m2),[(4,some 8),(5,some 9),(6,some 7),(7,some 5)],⟨by rfl,?_,?_⟩,hl1,hl2,hr1,hr2⟩;(focus (simp;done));(simp[aA];done))
       |(refine⟨(m1,m2),[(4,some 8),(5,some 9),(6,some 7),(7,some 6)],⟨by rfl,?_,?_⟩,hl1,hl2,hr1,hr2⟩;(focus (simp;done));(simp[aA];done))
       |(refine⟨(m1,m2),[(4,some 6),(5,some 9),(6,some 7),(7,some 8)],⟨by rfl,?_,?_⟩,hl1,hl2,hr1,hr2⟩;(focus (simp;done));(simp[aA];done))
       |(refine⟨(m1,m2),[(4,some 6),(5,some 8),(6,some 7),(7,some 9)],⟨by rfl,?_,?_⟩,hl1,hl2,hr1,hr2⟩;(focus (simp;done));(simp[aA];done))
       |(refine⟨(m1,m2),[(4,some 7),(5,some 9),(6,some 8),(7,some 5)],⟨by rfl,?_,?_⟩,hl1,hl2,hr1,hr2⟩;(focus (simp;done));(simp[aA];done))
       |(refine⟨(m1,m2),[(4,some 7),(5,some 9),(6,some 8),(7,some 6)],⟨by rfl,?_,?_⟩,hl1,hl2,hr1,hr2⟩;(focus (simp;done));(simp[aA];done))
       |(refine⟨(m1,m2),[(4,some 6),(5,some 9),(6,some 8),(7,some 7)],⟨by rfl,?_,?_⟩,hl1,hl2,hr1,hr2⟩;(focus (simp;done));(simp[aA];done))
       |(refine⟨(m1,m2),[(4,some 6),(5,some 7),(6,some 8),(7,some 9)],⟨by rfl,?_,?_⟩,hl1,hl2,hr1,hr2⟩;(focus (simp;done));(simp[aA];done))
       |(refine⟨(m1,m2),[(4,some 7),(5,some 8),(6,some 9),(7,some 5)],⟨by rfl,?_,?_⟩,hl1,hl2,hr1,hr2⟩;(focus (simp;done));(simp[aA];done))
       |(refine⟨(m1,m2),[(4,some 7),(5,some 8),(6,some 9),(7,some 6)],⟨by rfl,?_,?_⟩,hl1,hl2,hr1,hr2⟩;(focus (simp;done));(simp[aA];done))
       |(refine⟨(m1,m2),[(4,some 6),(5,some 8),(6,some 9),(7,some 7)],⟨by rfl,?_,?_⟩,hl1,hl2,hr1,hr2⟩;(focus (simp;done));(simp[aA];done))
       |(refine⟨(m1,m2),[(4,some 6),(5,some 7),(6,some 9),(7,some 8)],⟨by rfl,?_,?_⟩,hl1,hl2,hr1,hr2⟩;(focus (simp;done));(simp[aA];done))
   ·rintro⟨m1,m2⟩ ⟨hl1,hl2,hr1,hr2⟩
    simp only at hl1 hl2 hr1 hr2⊢
    refine gO ?_
    refine aO (aCS F hF hs m1 m2 m1.length m2.length rfl rfl (by omega) (by omega)) [0,1,4,5,6,7] Tryz.call98 rfl (by simp) (by simp) (by simp;omega) ?_
    intro v s hv
    rw[Gm]at hv
    have hus:nH F (kpB m1 m2):=⟨fun j hj=>by
     unfold kpB
     rw[Bool.and_eq_true,hr1 j hj,hr2 j hj,yV (bk:=true)]
     constructor
     ·rintro⟨h1,x,h2,h3⟩
      obtain⟨e,h4,h5,rfl⟩:=(iK _).1 h2
      exact⟨h1,e,by omega,h5,h3⟩
     ·rintro⟨h1,e,h2,h3,h4⟩
      exact⟨h1,e,(iK _).2 ⟨e,by omega,h3,rfl⟩,h4⟩⟩
    generalize hT:kT F (kpB m1 m2)=T at hv
    obtain⟨tst,tstart,tfin,tarcs,tc1,tc2⟩:=T
    obtain⟨sp3,sq3,rfl,rfl⟩:=hv
    simp only at*
    refine gO ?_
    refine⟨[(2,some 8),(3,some 9)],[(2,.arr true 3 .int tfin sp3),(3,.arr true 55 .arc tarcs sq3)],4,.a (.agg [.i tst,.i tstart,.sl 2 1 0 tfin.length (tfin.length+sp3),.sl 3 5 0 tarcs.length (tarcs.length+sq3)]),⟨by rfl,trivial,by simp⟩,by simp,kpB m1 m2,hus,?_⟩
    rw[hT]
    exact⟨sp3,sq3,rfl,rfl⟩
section
variable {p:Nat->Bool}
theorem Io: ∀ {j k:Nat},j<=k->rkB p j<=rkB p k
 |j,0,h=>by rw[Nat.le_zero.1 h];exact Nat.le_refl _
 |j,k+1,h=>by
  by_cases e:j=k+1
  ·rw[e];exact Nat.le_refl _
  ·have:=Io (j:=j) (k:=k) (by omega)
   show _<=if p k=true then rkB p k+1 else rkB p k
   split<;>omega
theorem lO {j k:Nat} (h:j<k) (hj:p j=true):rkB p j<rkB p k:=by
 have h1:rkB p (j+1)=rkB p j+1:=by show(if p j=true then _ else _)=_;rw[if_pos hj]
 have:=Io (p:=p) (j:=j+1) (k:=k) h
 omega
theorem aA8 {j k:Nat} (hj:p j=true) (hk:p k=true) (h:rkB p j=rkB p k):j=k:=by
 rcases Nat.lt_trichotomy j k with q|q|q
 ·have:=lO q hj;omega
 ·exact q
 ·have:=lO q hk;omega
theorem pA (fin:List Int): ∀ {n j:Nat},j<n->p j=true->(bY p fin n).getD (rkB p j) 0=fin.getD j 0
 |0,j,h,_=>by omega
 |n+1,j,h,hj=>by
  have hl:=iM p fin n
  have hs:bY p fin (n+1)=if p n=true then bY p fin n++[fin.getD n 0]else bY p fin n:=rfl
  by_cases e:j=n
  ·subst e
   rw[hs,if_pos hj]
   simp[List.getD,hl]
  ·have ih:=pA fin (n:=n) (j:=j) (by omega) hj
   have hlt:=lO (p:=p) (show j<n by omega) hj
   rw[hs]
   split
   ·rw[<-ih]
    simp only[List.getD]
    rw[List.getElem?_append_left (by omega)]
   ·exact ih
theorem lZ (fin:List Int): ∀ {n:Nat} {x:Int},x∈bY p fin n-> ∃j,j<n/\x=fin.getD j 0
 |0,x,h=>by cases h
 |n+1,x,h=>by
  have hs:bY p fin (n+1)=if p n=true then bY p fin n++[fin.getD n 0]else bY p fin n:=rfl
  rw[hs]at h
  split at h
  ·rcases List.mem_append.1 h with h|h
   ·obtain⟨j,h1,h2⟩:=lZ fin h
    exact⟨j,by omega,h2⟩
   ·rw[List.mem_singleton]at h;exact⟨n,by omega,h⟩
  ·obtain⟨j,h1,h2⟩:=lZ fin h
   exact⟨j,by omega,h2⟩
theorem zK {l:List Arc} {b:Arc}: ∀k,k<=l.length->(b∈bW p l k <-> ∃i,i<k/\kOk p (l.getD i aD)=true/\b=jN p (l.getD i aD))
 |0,_=>by simp[bW]
 |k+1,hk=>by
  have ih:=zK (l:=l) (b:=b) k (by omega)
  have hs:bW p l (k+1)=if kOk p (l.getD k aD)=true then bW p l k++[jN p (l.getD k aD)]else bW p l k:=rfl
  rw[hs]
  split
  ·rename_i h
   rw[List.mem_append,ih,List.mem_singleton]
   constructor
   ·rintro(⟨i,h1,h2⟩|rfl)
    ·exact⟨i,by omega,h2⟩
    ·exact⟨k,by omega,h,rfl⟩
   ·rintro⟨i,h1,h2,h3⟩
    by_cases q:i=k
    ·subst q;exact .inr h3
    ·exact .inl ⟨i,by omega,h2,h3⟩
  ·rename_i h
   rw[ih]
   constructor
   ·rintro⟨i,h1,h2⟩
    exact⟨i,by omega,h2⟩
   ·rintro⟨i,h1,h2,h3⟩
    by_cases q:i=k
    ·subst q;exact absurd h2 h
    ·exact⟨i,by omega,h2,h3⟩
theorem fN {l:List Arc} {b:Arc}:b∈bW p l l.length <-> ∃a∈l,p a.f.toNat=true/\p a.t.toNat=true/\b=jN p a:=by
 rw[zK _ (Nat.le_refl _)]
 constructor
 ·rintro⟨i,h1,h2,h3⟩
  unfold kOk at h2
  rw[Bool.and_eq_true]at h2
  exact⟨_,aB l i aD h1,h2.1,h2.2,h3⟩
 ·rintro⟨a,ha,h1,h2,h3⟩
  obtain⟨i,hi,e⟩:=List.getElem_of_mem ha
  have e2:l.getD i aD=a:=by simp[List.getD,hi,e]
  exact⟨i,hi,by rw[e2];unfold kOk;rw[h1,h2];rfl,by rw[e2];exact h3⟩
theorem Np {a b:Arc} (ha:0<=a.f/\0<=a.t) (hb:0<=b.f/\0<=b.t) (h1:p a.f.toNat=true) (h2:p a.t.toNat=true) (h:bF a b=true):bF (jN p a) (jN p b)=true:=by
 rw[kX]at h⊢
 have key: ∀x y:Int,0<=x->0<=y->p x.toNat=true->(x<y->((rkB p x.toNat:Nat):Int)<(rkB p y.toNat:Nat))/\(x=y->((rkB p x.toNat:Nat):Int)=(rkB p y.toNat:Nat)):=fun x y hx hy hp=>
  ⟨fun h=>by have:=lO (p:=p) (show x.toNat<y.toNat by omega) hp;omega,fun h=>by rw[h]⟩
 have k1:=key a.f b.f ha.1 hb.1 h1
 have k2:=key a.t b.t ha.2 hb.2 h2
 show((rkB p a.f.toNat:Nat):Int)<(rkB p b.f.toNat:Nat)\/((rkB p a.f.toNat:Nat):Int)=(rkB p b.f.toNat:Nat)/\(a.i<b.i\/a.i=b.i/\(a.o<b.o\/a.o=b.o/\((rkB p a.t.toNat:Nat):Int)<(rkB p b.t.toNat:Nat)))
 rcases h with h|⟨h,h3⟩
 ·exact .inl (k1.1 h)
 ·refine .inr ⟨k1.2 h,?_⟩
  rcases h3 with h3|⟨h3,h4⟩
  ·exact .inl h3
  ·refine .inr ⟨h3,?_⟩
   rcases h4 with h4|⟨h4,h5⟩
   ·exact .inl h4
   ·exact .inr ⟨h4,k2.1 h5⟩
theorem Jr {l:List Arc} (hr: ∀a∈l,0<=a.f/\0<=a.t) (hs:Srt l): ∀k,k<=l.length->Srt (bW p l k)
 |0,_=>List.Pairwise.nil
 |k+1,hk=>by
  have ih:=Jr hr hs k (by omega)
  have hs1:bW p l (k+1)=if kOk p (l.getD k aD)=true then bW p l k++[jN p (l.getD k aD)]else bW p l k:=rfl
  rw[hs1]
  split
  ·refine List.pairwise_append.2 ⟨ih,List.pairwise_singleton _ _,fun x hx y hy=>?_⟩
   rw[List.mem_singleton]at hy
   subst hy
   obtain⟨i,hi,hok,rfl⟩:=(zK k (by omega)).1 hx
   unfold kOk at hok
   rw[Bool.and_eq_true]at hok
   have hmi:=aB l i aD (by omega)
   have hmk:=aB l k aD (by omega)
   refine Np (hr _ hmi) (hr _ hmk) hok.1 hok.2 ?_
   have e1:l.getD i aD=l[i]'(by omega):=by simp[List.getD,show i<l.length by omega]
   have e2:l.getD k aD=l[k]'(by omega):=by simp[List.getD,show k<l.length by omega]
   rw[e1,e2]
   exact List.pairwise_iff_getElem.1 hs i k (by omega) (by omega) hi
  ·exact ih
end
theorem Wh {s t:Int} {u v:List Int} {d:Int} (h:Way [] s u v t d):t=s:=by
 induction h with
 |nil s=>rfl
 |cons ha _ _=>cases ha
section
variable {F:TF} {p:Nat->Bool} (hF:FRng F) (hs:0<=F.start/\F.start<F.st) (hp:nH F p)
include hF hp
theorem tW {s t:Int} {u v:List Int} {d:Int} (hw:Way F.arcs s u v t d):0<=s/\s<F.st->Rch F.arcs false [F.start] s->F.fin.getD t.toNat 0≠ -1->
  0<=t/\t<F.st/\p t.toNat=true/\Rch F.arcs true [t] s/\p s.toNat=true/\Way (bW p F.arcs F.arcs.length) (rkB p s.toNat:Nat) u v (rkB p t.toNat:Nat) d:=by
 induction hw with
 |nil s=>
  intro h1 h2 h3
  have e:((s.toNat:Nat):Int)=s:=by omega
  have:p s.toNat=true:=(hp.iff s.toNat (by omega)).2 ⟨by rw[e];exact h2,s.toNat,by omega,h3,by rw[e];exact .here (by simp)⟩
  exact⟨h1.1,h1.2,this,.here (by simp),this,.nil _⟩
 | @cons a u v t c ha hw ih=>
   intro h1 h2 h3
   have hb:=hF.arc a ha
   have h2':Rch F.arcs false [F.start] a.t:=Rch.on (bk:=false) h2 ha rfl
   obtain⟨i1,i2,i3,i4,i5,i6⟩:=ih ⟨hb.2.2.1,hb.2.2.2⟩ h2' h3
   have h5:Rch F.arcs true [t] a.f:=Rch.on (bk:=true) i4 ha rfl
   have e:((a.f.toNat:Nat):Int)=a.f:=by omega
   have e2:((t.toNat:Nat):Int)=t:=by omega
   have hpf:p a.f.toNat=true:=(hp.iff a.f.toNat (by omega)).2 ⟨by rw[e];exact h2,t.toNat,by omega,h3,by rw[e,e2];exact h5⟩
   refine⟨i1,i2,i3,h5,hpf,?_⟩
   exact Way.cons (a:=jN p a) (fN.2 ⟨a,ha,hpf,i5,rfl⟩) i6
omit hp in
theorem Jo {r r':Int} {u v:List Int} {d:Int} (hw:Way (bW p F.arcs F.arcs.length) r u v r' d): ∀j:Int,0<=j/\j<F.st->p j.toNat=true->r=(rkB p j.toNat:Nat)-> ∃j':Int,0<=j'/\j'<F.st/\p j'.toNat=true/\r'=(rkB p j'.toNat:Nat)/\Way F.arcs j u v j' d:=by
 induction hw with
 |nil s=>intro j h1 h2 h3;exact⟨j,h1.1,h1.2,h2,h3,.nil _⟩
 | @cons b u v t c hb hw ih=>
   intro j h1 h2 h3
   obtain⟨a,ha,h4,h5,rfl⟩:=fN.1 hb
   have hr:=hF.arc a ha
   have e:a.f=j:=by
    have e1:((rkB p a.f.toNat:Nat):Int)=(rkB p j.toNat:Nat):=h3
    have:=aA8 h4 h2 (by omega)
    omega
   obtain⟨j',q1,q2,q3,q4,q5⟩:=ih a.t ⟨hr.2.2.1,hr.2.2.2⟩ h5 rfl
   refine⟨j',q1,q2,q3,q4,?_⟩
   rw[<-e]
   exact Way.cons ha q5
include hs
theorem Cf {u v:List Int} {c:Int}:Wt (kT F p) u v c <-> Wt F u v c:=by
 by_cases h:p F.start.toNat=true
 ·have e:kT F p=⟨(rkB p F.st.toNat:Nat),(rkB p F.start.toNat:Nat),bY p F.fin F.st.toNat,bW p F.arcs F.arcs.length,0,0⟩:=by unfold kT;rw[if_pos h]
  rw[e]
  constructor
  ·rintro⟨t,d,h1,h2,rfl⟩
   simp only at h1 h2⊢
   obtain⟨j,q1,q2,q3,rfl,q5⟩:=Jo hF h1 F.start hs h rfl
   rw[Int.toNat_natCast,pA F.fin (by omega) q3]at h2⊢
   exact⟨j,d,q5,h2,rfl⟩
  ·rintro⟨t,d,h1,h2,rfl⟩
   obtain⟨i1,i2,i3,i4,i5,i6⟩:=tW hF hp h1 hs (.here (by simp)) h2
   refine⟨_,d,i6,?_⟩
   simp only
   rw[Int.toNat_natCast,pA F.fin (by omega) i3]
   exact⟨h2,rfl⟩
 ·have e:kT F p=⟨1,0,[-1],[],0,0⟩:=by unfold kT;rw[if_neg h]
  rw[e]
  constructor
  ·rintro⟨t,d,h1,h2,rfl⟩
   simp only at h1 h2
   rw[Wh h1]at h2
   exact absurd rfl h2
  ·rintro⟨t,d,h1,h2,rfl⟩
   obtain⟨i1,i2,i3,i4,i5,i6⟩:=tW hF hp h1 hs (.here (by simp)) h2
   exact absurd i5 h
omit hp in
theorem Mc (hsr:Srt F.arcs) (ha: ∀a∈F.arcs,(0<=a.i/\a.i<=9)/\(0<=a.o/\a.o<=9)/\0<=a.w/\a.w<=1000000000) (hf: ∀n∈F.fin,-1<=n/\n<=1000000000)
  (h1:(kT F p).st<=200) (h2:(kT F p).arcs.length<=3000):aL (kT F p)=0:=by
 have hfl:=hF.finl
 by_cases h:p F.start.toNat=true
 ·have e:kT F p=⟨(rkB p F.st.toNat:Nat),(rkB p F.start.toNat:Nat),bY p F.fin F.st.toNat,bW p F.arcs F.arcs.length,0,0⟩:=by unfold kT;rw[if_pos h]
  rw[e]at h1 h2⊢
  simp only at h1 h2
  have hlt:=lO (p:=p) (show F.start.toNat<F.st.toNat by omega) h
  have hkl:=iM p F.fin F.st.toNat
  refine Aa.2 ⟨⟨⟨by simp only;omega,h1⟩,⟨by simp only;omega,by simp only;omega⟩,by simp only;omega,fun n hn=>?_,h2,fun b hb=>?_⟩,Jr (fun a ha=>⟨(hF.arc a ha).1,(hF.arc a ha).2.2.1⟩) hsr _ (Nat.le_refl _)⟩
  ·simp only at hn
   obtain⟨j,hj,rfl⟩:=lZ F.fin hn
   exact hf _ (aB F.fin j 0 (by omega))
  ·simp only at hb⊢
   obtain⟨a,ha',q1,q2,rfl⟩:=fN.1 hb
   have hr:=hF.arc a ha'
   have hx:=ha a ha'
   have l1:=lO (p:=p) (show a.f.toNat<F.st.toNat by omega) q1
   have l2:=lO (p:=p) (show a.t.toNat<F.st.toNat by omega) q2
   exact⟨by simp only[jN];omega,by simp only[jN];omega,by simp only[jN];omega,by simp only[jN];omega,hx.1,hx.2.1,hx.2.2.1,hx.2.2.2⟩
 ·have e:kT F p=⟨1,0,[-1],[],0,0⟩:=by unfold kT;rw[if_neg h]
  rw[e]
  exact Aa.2 ⟨⟨⟨by simp only;omega,by simp only;omega⟩,⟨by simp only;omega,by simp only;omega⟩,by simp,by simp,by simp,by simp⟩,List.Pairwise.nil⟩
end
theorem Df (F:TF) (hF:WOk F) (hst1:F.st<=1000) (x:Glo) (hx:gJ x) (L:List (List Duo)) (es:List (ByteArray×Int×Nat)) (clk:Nat) (rows:List Sli) (m:List (Addr×List Duo×Nat)) (spr spf nr cr:Nat) (s:List Duo) (ya:Option Addr) (yc:Nat) (B:Int) (hB:0<=B/\B<=1000000000000) (hs:SOk F B s) (hnum:Br es L) (htab:sN m rows L) (hy:Hd m ⟨ya,s.length,yc⟩) (hr:aM m ya=s) (hL:L.length<=100000):
  Ct Tryz.prog 123 [.c (.ptr 2 0),.c (.h ⟨ya,s.length,yc⟩)] [] ((0,.arr false 3 .int F.fin 0)::Jy F L es clk rows m spr spf nr cr 5 7 8 x) 10
  (fun v t=> ∃es' clk' rows' spr' spf',Br es' (dV L s)/\sN m rows' (dV L s)/\v= .i (((dV L s).idxOf s:Nat):Int)/\t=⟨[],Jy F (dV L s) es' clk' rows' m spr' spf' nr cr 10 11 8 x,12⟩):=by
 unfold dV
 by_cases h:s∈L
 ·rw[if_pos h]
  exact Nk F hF hst1 x hx L es clk rows m spr spf nr cr s ya yc B hB hs hnum htab hr h
 ·rw[if_neg h]
  exact Jc F hF hst1 x hx L es clk rows m spr spf nr cr s ya yc B hB hs hnum htab hy hr hL h
abbrev dM (U:TF) (il nl cl:Nat) (ost:Int) (jf nf cf ir nr cr:Nat):List SC:= [.i U.st,.i U.start,.sl 6 1 0 U.fin.length U.capF,.sl 7 5 0 U.arcs.length U.capA,.mp 8,.sl il 1 0 nl cl,.i ost,.i 0,.sl jf 1 0 nf cf,.sl ir 5 0 nr cr]
abbrev hpM (U:TF) (spU sqU:Nat) (L:List (List Duo)) (raw:List Arc) (es:List (ByteArray×Int×Nat)) (clk:Nat) (rows:List Sli) (m:List (Addr×List Duo×Nat)) (spr spf sra:Nat) (x:Glo):List (Nat×SO):= [(2,aF x),(3,.box 25 aW),(4,.box 150 (dM U 9 rows.length (rows.length+spr) 0 11 (L.map (bQ U)).length ((L.map (bQ U)).length+spf) 12 raw.length (raw.length+sra))),(6,.arr true 3 .int U.fin spU),(7,.arr true 55 .arc U.arcs sqU),(8,.map .str .int es clk),(9,.arr true 153 .sli rows spr),(10,.pool 151 .duo m),(11,.arr true 3 .int (L.map (bQ U)) spf),(12,.arr true 55 .arc raw sra)]
theorem aAb {F:TF} (hF:FRng F) (hs:0<=F.start/\F.start<F.st) (p:Nat->Bool) (c1 c2:Nat):FRng ⟨(kT F p).st,(kT F p).start,(kT F p).fin,(kT F p).arcs,c1,c2⟩/\(0<=(kT F p).start/\(kT F p).start<(kT F p).st)/\(kT F p).st<=F.st:=by
 unfold kT
 have hst:=hF.st
 split
 ·rename_i h
  have h1:=uZ p F.st.toNat
  have hlt:=lO (p:=p) (show F.start.toNat<F.st.toNat by omega) h
  have hkl:=iM p F.fin F.st.toNat
  have hal:=hF.arcl
  have hkr:=iN p F.arcs F.arcs.length
  refine⟨⟨⟨by simp only;omega,by simp only;omega⟩,by simp only;omega,by simp only;omega,fun a ha=>?_⟩,⟨by simp only;omega,by simp only;omega⟩,by simp only;omega⟩
  simp only at ha
  obtain⟨b,hb,q1,q2,rfl⟩:=fN.1 ha
  have hr:=hF.arc b hb
  have l1:=lO (p:=p) (show b.f.toNat<F.st.toNat by omega) q1
  have l2:=lO (p:=p) (show b.t.toNat<F.st.toNat by omega) q2
  simp only[jN]
  omega
 ·exact⟨⟨⟨by simp,by simp⟩,by simp,by simp,by simp⟩,⟨by simp,by simp⟩,by simp only;omega⟩
theorem aDr {F:TF} (hF:WOk F) (hs:0<=F.start/\F.start<F.st) (p:Nat->Bool) (c1 c2:Nat):WOk ⟨(kT F p).st,(kT F p).start,(kT F p).fin,(kT F p).arcs,c1,c2⟩:=by
 refine⟨(aAb hF.toFRng hs p c1 c2).1,?_,?_⟩
 ·simp only
  unfold kT
  split
  ·intro a ha
   obtain⟨b,hb,q1,q2,rfl⟩:=fN.1 ha
   exact hF.w b hb
  ·simp
 ·simp only
  unfold kT
  split
  ·intro n hn
   obtain⟨j,hj,rfl⟩:=lZ F.fin hn
   exact hF.fin _ (aB F.fin j 0 (by have:=hF.finl;omega))
  ·simp
def lC (F U:TF):Prop:= ∃p,nH F p/\U.st=(kT F p).st/\U.start=(kT F p).start/\U.fin=(kT F p).fin/\U.arcs=(kT F p).arcs
theorem lC.ok {F U:TF} (h:lC F U) (hF:WOk F) (hs:0<=F.start/\F.start<F.st):WOk U/\(0<=U.start/\U.start<U.st)/\U.st<=F.st:=by
 obtain⟨p,hp,h1,h2,h3,h4⟩:=h
 obtain⟨a,b,c,d,e,f⟩:=U
 simp only at h1 h2 h3 h4
 subst h1 h2 h3 h4
 exact⟨aDr hF hs p e f,(aAb hF.toFRng hs p e f).2⟩
theorem aCg (β:Env) (id sz n c:Nat):SC.den β (.sl id sz 0 n c)= .slice (β id) n c:=by
 have hid: ∀o:Option Addr,o.map (fun x=>x.add (0*sz))=o:=fun o=>by cases o<;>simp[Addr.add]
 simp only[SC.den,hid]
def aAE (F:TF) (x:Glo) (v:SV) (s:S):Prop:= ∃U,lC F U/\
 ((200<iO U 201 200 [⟨U.start,0⟩]/\v= .tup [.agg aW,.c (.b false)]/\s=⟨[],[(2,aF x)],3⟩)\/
  (iO U 201 200 [⟨U.start,0⟩]<=200/\ ∃st:DS,jI U st/\ ∃sp sq,v= .tup [.agg [.i (st.1.length:Nat),.i 0,.sl 3 1 0 (st.1.map (bQ U)).length ((st.1.map (bQ U)).length+sp),.sl 4 5 0 st.2.length (st.2.length+sq)],.c (.b true)]/\
   s=⟨[],[(2,aF x),(3,.arr true 3 .int (st.1.map (bQ U)) sp),(4,.arr true 55 .arc st.2 sq)],5⟩))
theorem Zb (F:TF) (hF:WOk F) (hs:0<=F.start/\F.start<F.st) (hst1:F.st<=1000) (x:Glo) (hx:gJ x):Ct Tryz.prog 75 [fV F] [] (hpF F++[(2,aF x)]) 3 (aAE F x):=by
 refine ctC Tryz.tyOk Tryz.func75 rfl (by simp) (by simp) (fr:= [(0,fV F)]) rfl ?_
 refine gH.cut Tryz.tyOk 10 [] (fun z:TF×Nat×Nat=>⟨[(2,.c (.ptr 3 0)),(4,.c (.ptr 4 0)),(5,.c (.sl 5 2 0 1 1))],(5,.arr true 151 .duo [⟨z.1.start,0⟩] 0)::hpM z.1 z.2.1 z.2.2 [] [] [] 0 [] [] 0 0 0 x,13⟩)
  (fun z=>lC F z.1/\z.1.capF=z.1.fin.length+z.2.1/\z.1.capA=z.1.arcs.length+z.2.2) 4 _ _ ?_ ?_
 ·refine gO ?_
  refine cF (nZ F hF.toFRng hs) [0,1] Tryz.call48 ?_
  rintro v s ⟨p,hus,hv⟩
  generalize hkT:kT F p=T at hv
  obtain⟨tst,tstart,tfin,tarcs,tc1,tc2⟩:=T
  obtain⟨sp3,sq3,rfl,rfl⟩:=hv
  refine gN ?_
  refine⟨(⟨tst,tstart,tfin,tarcs,tfin.length+sp3,tarcs.length+sq3⟩,sp3,sq3),[(3,some 4),(4,some 8),(5,some 9),(6,some 5),(7,some 6),(8,some 7),(9,none),(10,none),(11,none),(12,none)],⟨by rfl,?_,?_⟩,⟨p,hus,by rw[hkT],by rw[hkT],by rw[hkT],by rw[hkT]⟩,rfl,rfl⟩
  ·simp
  ·simp[cT]
 ·rintro⟨U,spU,sqU⟩ ⟨hus,hcF,hcA⟩
  simp only at hus hcF hcA⊢
  obtain⟨hUw,hUs,hUst⟩:=hus.ok hF hs
  have hU0:=hUw.st
  have hUl:=hUw.finl
  have hUa:=hUw.arcl
  have hU1:U.st<=1000:=by omega
  have hs0:SOk U 0 [⟨U.start,0⟩]:=⟨by simp only[List.length_cons,List.length_nil];omega,fun e he=>by rw[List.mem_singleton]at he;subst he;simp only;omega⟩
  refine gH.of Tryz.tyOk 10 [] ?_
  refine gO ?_
  refine cF (aDT U hUw 0 0 0 0 0 0 0 0 201 200 [⟨U.start,0⟩] 0 1 (by omega) (by omega) (by omega) (by omega) hs0) [6,7,4,5,8,9,10,11,12] Tryz.call122 ?_
  rintro _ _ ⟨rfl,rfl⟩
  have hble:=yB U 201 200 [⟨U.start,0⟩]
  have hTT:=xL U 201 200 [⟨U.start,0⟩] (by omega)
  have hT0:=uU U 201 [⟨U.start,0⟩]
  generalize hTe:lF U 201 [⟨U.start,0⟩]=T at*
  clear hTe
  generalize hbg:iO U 201 200 [⟨U.start,0⟩]=bg at*
  by_cases hbig:200<bg
  ·refine gI fun h=>?_
   ·(conv=>whnf)
    exact⟨[],[(2,aF x)],3,.tup [.agg aW,.c (.b false)],⟨by rfl,trivial,by simp⟩,by simp,U,hus,.inl ⟨by omega,rfl,rfl⟩⟩
  ·obtain⟨hTl,hTc⟩:=hTT (by omega)
   have hT1:T.length<=200:=by omega
   simp only[Nat.reduceAdd,Nat.reduceSub]
   refine aG (fun hc=>absurd hc (by omega)) (fun _=>?_)
   refine gI ?_
   refine Ry 5 10 1 1 (fun y=> [.c (.ptr 4 0),.c (.h y)]) Tryz.call123 (fun β y hy=>by simp only[jQ,qR,List.map_cons,List.map_nil,SV.den,SA.den,hy,aCg]) ?_
   (conv=>whnf)
   refine Ob.mk ⟨rfl,Nat.le_refl _⟩ ?_
   intro m1 y hfz
   obtain⟨q1,q2,q3,q4⟩:=aAa (s:= [(⟨U.start,0⟩:Duo)]) hfz (Nat.le_refl _) (by simp)
   obtain⟨ya,yn,yc⟩:=y
   simp only at q2 q3 q4
   subst q3 q4
   have hnum0:Br [] []:=⟨rfl,fun s _=>by rw[if_neg (by simp)];rfl⟩
   (conv=>whnf)
   refine cF (Df U hUw hU1 x hx [] [] 0 [] m1 0 0 0 0 [⟨U.start,0⟩] ya 1 0 (by omega) hs0 hnum0 ⟨rfl,fun j h=>absurd h (Nat.not_lt_zero _),fun j h=>absurd h (Nat.not_lt_zero _)⟩ q1 q2 (by simp)) [6,7,4,3,8,9,10,11,12,2] Tryz.call123 ?_
   rintro _ _ ⟨es,clk,rows,spr,spf,hnum,htab,rfl,rfl⟩
   have hL0:dV [] [(⟨U.start,0⟩:Duo)]=(bN U 0).1:=rfl
   rw[hL0]at hnum htab⊢
   simp only[Nat.reduceAdd,Nat.reduceSub]
   refine gI ?_
   refine aJ (fun z:Nat×List (ByteArray×Int×Nat)×Nat×List Sli×List (Addr×List Duo×Nat)×Nat×Nat×Nat=>⟨[(2,.c (.ptr 3 0)),(4,.c (.ptr 4 0)),(6,.i z.1)],hpM U spU sqU (bN U z.1).1 (bN U z.1).2 z.2.1 z.2.2.1 z.2.2.2.1 z.2.2.2.2.1 z.2.2.2.2.2.1 z.2.2.2.2.2.2.1 z.2.2.2.2.2.2.2 x,13⟩)
    (fun z=>qU U T z.1 (bN U z.1)/\Br z.2.1 (bN U z.1).1/\sN z.2.2.2.2.1 z.2.2.2.1 (bN U z.1).1/\(bN U z.1).2.length<=9*z.1) (fun z=>200-z.1) (0,es,clk,rows,m1,spr,spf,0) [(9,some 13),(11,some 14)] ⟨by rfl,?_,?_⟩ ⟨qU.start hUs hT0,hnum,htab,by simp[bN]⟩ ?_
   ·simp
   ·simp[bN]
   ·clear hnum htab hfz q1 q2
    rintro⟨i,es,clk,rows,m,spr,spf,sra⟩ ⟨hM,hnum,htab,hra⟩
    simp only at hM hnum htab hra⊢
    have hLT:=Je hM.nd hM.sub
    have htl:=htab.len
    have hil:=hM.len.1
    generalize hst:bN U i=st at*
    (conv=>whnf)
    refine aG (fun hi=>?_) (fun hi=>?_)
    ·have hi2:i<st.1.length:=by omega
     have hst1l:st.1.length<=200:=by omega
     refine gO ?_
     refine aJ (fun z:Nat×List (ByteArray×Int×Nat)×Nat×List Sli×List (Addr×List Duo×Nat)×Nat×Nat×Nat=>⟨[(2,.c (.ptr 3 0)),(4,.c (.ptr 4 0)),(6,.i i),(7,.i ((z.1:Int)+1))],hpM U spU sqU (jM U i st z.1).1 (jM U i st z.1).2 z.2.1 z.2.2.1 z.2.2.2.1 z.2.2.2.2.1 z.2.2.2.2.2.1 z.2.2.2.2.2.2.1 z.2.2.2.2.2.2.2 x,13⟩)
      (fun z=>z.1<=9/\qU U T i (jM U i st z.1)/\i<(jM U i st z.1).1.length/\Br z.2.1 (jM U i st z.1).1/\sN z.2.2.2.2.1 z.2.2.2.1 (jM U i st z.1).1/\(jM U i st z.1).2.length<=9*i+z.1) (fun z=>9-z.1) (0,es,clk,rows,m,spr,spf,sra) [] ⟨by rfl,?_,?_⟩ ⟨Nat.zero_le _,hM,hi2,hnum,htab,hra⟩ ?_
     ·simp
     ·simp[jM]
     ·clear hnum htab hra hLT htl hi
      rintro⟨k,es,clk,rows,m,spr,spf,sra⟩ ⟨hk,hM2,hi3,hnum,htab,hra⟩
      simp only at hk hM2 hi3 hnum htab hra⊢
      have hLT:=Je hM2.nd hM2.sub
      have htl:=htab.len
      have hks:=qB U i st k
      have hstp:=fun hc=>hM2.step hi3 hU0.1 hUw.w (fun a ha=>(hUw.arc a ha).2.2) hTc (c:=k) hc
      have h9:k=9->jM U i st k=bN U (i+1):=fun e=>by rw[e];show _=jM U i (bN U i) 9;rw[hst]
      generalize hst2:jM U i st k=st2 at*
      (conv=>whnf)
      refine aG (fun hk2=>?_) (fun hk2=>?_)
      ·have e0:0+(i:Int).toNat=i:=by omega
       have hyh:=htab.hd i hi3
       have hyr:=htab.row i hi3
       have hok:=hM2.ok i hi3
       have hyn:(rows.getD i EK.sli.dflt).n=(st2.1.getD i []).length:=by rw[hyh.len,hyr]
       obtain⟨hM3,hl3,hr3⟩:=hstp (by omega)
       rw[<-hks]at hM3 hl3 hr3
       refine gO ?_
       refine Hg 10 [false,true,false] Tryz.call124 (by simp) ?_
       (conv=>whnf)
       rw[e0]
       have hsbO:=Mm (c:=(k:Int)+1) hok (by omega) hU0.1 hUw.w
       have hsbN:=fun h=>Xl (c:=(k:Int)+1) hok (by omega) hUw.w (fun a ha=>(hUw.arc a ha).2.2) h
       have hstD:stD U i st2 ((k:Int)+1)=if sbB U (st2.1.getD i []) ((k:Int)+1)= -1 then st2 else(dV st2.1 (sbS U (st2.1.getD i []) ((k:Int)+1)),st2.2++[⟨(i:Nat),(k:Int)+1,(k:Int)+1,((dV st2.1 (sbS U (st2.1.getD i []) ((k:Int)+1))).idxOf (sbS U (st2.1.getD i []) ((k:Int)+1)):Nat),sbB U (st2.1.getD i []) ((k:Int)+1)⟩]):=rfl
       rw[hstD]at hks
       clear hstD
       generalize rows.getD i EK.sli.dflt=yy at*
       generalize st2.1.getD i []=s at*
       obtain⟨ya2,yn2,yc2⟩:=yy
       simp only at hyn hyr
       subst hyn
       refine aO (aCj U hUw s ((i:Int)*1000000000) (by omega) hok yc2 ((k:Int)+1) rows.length (rows.length+spr) (st2.1.map (bQ U)).length ((st2.1.map (bQ U)).length+spf) st2.2.length (st2.2.length+sra) 0 0) [6,7,4,13,8,9,10,11,12] Tryz.call124 rfl (by simp[lU,hyr]) (by simp[lU,hyr]) (by simp) ?_
       rintro _ _ ⟨sp,rfl,rfl⟩
       simp only[dN,Nat.reduceAdd,Nat.reduceSub]
       generalize hsb:sbS U s ((k:Int)+1)=sb at*
       generalize hbb:sbB U s ((k:Int)+1)=bb at*
       refine gI ?_
       refine⟨fun h=>?_,fun h=>?_⟩
       ·have hsn:=hsbN h
        rw[if_neg h]at hks
        (conv=>whnf)
        simp only[Nat.reduceAdd,Nat.reduceSub]
        refine Ry 14 10 sb.length (sb.length+sp) (fun y=> [.c (.ptr 4 0),.c (.h y)]) Tryz.call123 (fun β y hy=>by simp only[jQ,qR,List.map_cons,List.map_nil,SV.den,SA.den,hy,aCg]) ?_
        (conv=>whnf)
        refine Ob.mk ⟨rfl,Nat.le_refl _⟩ ?_
        intro m1 y hfz
        obtain⟨q1,q2,q3,q4⟩:=aAa hfz (Nat.le_refl _) hsn
        have htab1:=htab.frz hfz
        obtain⟨ya3,yn3,yc3⟩:=y
        simp only at q2 q3 q4
        subst q3 q4
        (conv=>whnf)
        refine cF (Df U hUw hU1 x hx st2.1 es clk rows m1 spr spf st2.2.length (st2.2.length+sra) sb ya3 (sb.length+sp) ((i:Int)*1000000000+1000000000) (by omega) hsbO.1 hnum htab1 q1 q2 (by omega)) [6,7,4,3,8,9,10,11,12,2] Tryz.call123 ?_
        rintro _ _ ⟨es2,clk2,rows2,spr2,spf2,hnum2,htab2,rfl,rfl⟩
        refine gM fun _=>?_
        rename_i sra2
        have hap:lOp.appL (sub st2.2 0 st2.2.length) (sub [(⟨(i:Nat),(k:Int)+1,(k:Int)+1,((dV st2.1 sb).idxOf sb:Nat),bb⟩:Arc)] 0 1)=st2.2++[⟨(i:Nat),(k:Int)+1,(k:Int)+1,((dV st2.1 sb).idxOf sb:Nat),bb⟩]:=aV _ _ _ rfl
        have hnl:=tQ st2.1 sb
        refine⟨(k+1,es2,clk2,rows2,m1,spr2,spf2,sra2),[(9,some 15),(11,some 16),(12,some 18)],⟨by rfl,?_,?_⟩,⟨by simp only;omega,hM3,by simp only[hks];omega,by simp only[hks];exact hnum2,by simp only[hks];exact htab2,by simp only[hks,List.length_append,List.length_cons,List.length_nil];omega⟩,by simp only;omega⟩
        ·simp[hks]
        ·simp[hks,hap]
       ·rw[if_pos h]at hks
        (conv=>whnf)
        refine⟨(k+1,es,clk,rows,m,spr,spf,sra),[],⟨by rfl,?_,?_⟩,⟨by simp only;omega,hM3,by simp only[hks];exact hi3,by simp only[hks];exact hnum,by simp only[hks];exact htab,by simp only[hks];omega⟩,by simp only;omega⟩
        ·simp[hks]
        ·simp[hks]
      ·have e:k=9:=by omega
       subst e
       have h10:=h9 rfl
       rw[h10]at hM2 hi3 hnum htab hra
       rw[h10]
       refine gO ?_
       refine⟨(i+1,es,clk,rows,m,spr,spf,sra),[],⟨by rfl,?_,?_⟩,⟨⟨hM2.sub,hM2.nd,hM2.ok,hM2.ne,⟨hi3,hM2.len.2⟩,hM2.raw⟩,hnum,htab,by simp only;omega⟩,by simp only;omega⟩
       ·simp
       ·simp
    ·have hid:i=st.1.length:=by omega
     have hel:=hnum.len
     refine gO ?_
     exact⟨[(3,some 11),(4,some 12)],[(2,aF x),(3,.arr true 3 .int (st.1.map (bQ U)) spf),(4,.arr true 55 .arc st.2 sra)],5,.tup [.agg [.i (st.1.length:Nat),.i 0,.sl 3 1 0 (st.1.map (bQ U)).length ((st.1.map (bQ U)).length+spf),.sl 4 5 0 st.2.length (st.2.length+sra)],.c (.b true)],⟨by rfl,trivial,by simp⟩,by simp[hel],U,hus,.inr ⟨by omega,st,⟨i,hst,hid⟩,spf,sra,rfl,rfl⟩⟩
end Go.Fw
