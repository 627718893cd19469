/-
  The soundness of the operations that make or write memory (fourth part): appends; all together.
-/
import Derived.Test.YtemhgpoeccbheaaGreatDoorQ01
import Derived.Tactics
set_option linter.unusedSimpArgs false
set_option linter.unusedVariables false
set_option maxRecDepth 100000
set_option maxHeartbeats 16000000
namespace Go.Fw
open Go
theorem yH (k:EK) (xs:List k.ty) (lo n:Nat) (h:lo+n<=xs.length):aH k xs=(aH k xs).take (lo*k.sz)++aH k (sub xs lo n)++(aH k xs).drop ((lo+n)*k.sz):=by
 have e:xs=xs.take lo++sub xs lo n++xs.drop (lo+n):=by
  unfold sub
  rw[List.append_assoc,<-List.drop_drop,List.take_append_drop,List.take_append_drop]
 have l1:(aH k (xs.take lo)).length=lo*k.sz:=by rw[aP,List.length_take,Nat.min_eq_left (by omega)]
 have l2:(aH k (sub xs lo n)).length=n*k.sz:=by rw[aP];unfold sub;rw[List.length_take,List.length_drop,Nat.min_eq_left (by omega)]
 have e2:aH k xs=aH k (xs.take lo)++aH k (sub xs lo n)++aH k (xs.drop (lo+n)):=by
  conv=>lhs;rw[e]
  rw[bB,bB]
 have t1:(aH k xs).take (lo*k.sz)=aH k (xs.take lo):=by
  rw[e2,List.append_assoc,<-l1,List.take_left]
 have t2:(aH k xs).drop ((lo+n)*k.sz)=aH k (xs.drop (lo+n)):=by
  have l3:(aH k (xs.take lo)++aH k (sub xs lo n)).length=(lo+n)*k.sz:=by rw[List.length_append,l1,l2,Nat.add_mul]
  rw[<-l3]
  conv=>lhs;rw[e2]
  rw[List.drop_left]
 rw[t1,t2]
 exact e2
theorem rK {α:Type} (xs:List α) (lo n:Nat) (h:lo+n<=xs.length):(sub xs lo n).length=n:=by
 unfold sub;rw[List.length_take,List.length_drop,Nat.min_eq_left (by omega)]
section
variable {P:Program} {ty:List (Nat×STy)} {β:Env} {Z:Nat->Prop} {fp:Nat->Nat->Prop} {s:S} {w:World} {N:NT} {a:Act}
structure Src (β:Env) (w:World) (ek:EK) (v:Value) (n:Nat) (ys:List ek.ty):Prop where
 len:ys.length=n
 at': ∃x cap,v= .slice x n cap/\(n=0\/ ∃y,x=some y/\ ∀j u,(aH ek ys)[j]?=some u->w.cell? (y.add j)=some u)
theorem rB {w:World} {x:Addr} (hsp:x.spot=none) {k:EK} {xs:List k.ty} {lo n:Nat} (h:lo+n<=xs.length)
  (hc: ∀j v,(aH k xs)[j]?=some v->w.cell? ⟨x.block,x.off+j,none⟩=some v) (j:Nat) (v:Value) (hj:(aH k (sub xs lo n))[j]?=some v):
  w.cell? ((x.add (lo*k.sz)).add j)=some v:=by
 have hlen:(aH k (sub xs lo n)).length=n*k.sz:=by rw[aP,rK _ _ _ h]
 have hjl:j<n*k.sz:=by rw[<-hlen];exact(List.getElem?_eq_some_iff.1 hj).1
 have l1:((aH k xs).take (lo*k.sz)).length=lo*k.sz:=by
  rw[List.length_take,aP,Nat.min_eq_left (Nat.mul_le_mul_right _ (by omega))]
 have:(aH k xs)[lo*k.sz+j]?=some v:=by
  rw[yH k xs lo n h,List.append_assoc,List.getElem?_append_right (by omega),l1,Nat.add_sub_cancel_left,List.getElem?_append_left (by omega),hj]
 have:=hc _ _ this
 rw[eR hsp,Addr.add_lit,Nat.add_assoc]
 exact this
theorem mO (hs:aR β Z fp s w) {ek:EK} {u:SV} {k:Nat->List ek.ty->Prop} (h:Wz s.hp ek u k): ∃n ys,k n ys/\Src β w ek (u.den β) n ys:=by
 unfold Wz at h
 split at h<;>try exact h.elim
 ·exact⟨0,[],h,rfl,none,0,rfl,.inl rfl⟩
 ·rename_i id sz lo len cap
  split at h<;>try exact h.elim
  rename_i own E k0 xs0 sp hl
  split at h<;>try exact h.elim
  rename_i xs hcast hsz
  rw[cH,decide_eq_true_eq]at hsz
  obtain⟨e,he⟩:=EK.cast_spec hcast
  subst e
  change xs=xs0 at he
  subst he
  obtain⟨hle,h⟩:=h
  refine⟨len,_,h,rK _ _ _ hle,_,cap,rfl,?_⟩
  by_cases hn:len=0
  ·exact .inl hn
  ·right
   have hne:xs≠ []:=by intro e;simp[e]at hle;omega
   obtain⟨x,hx,hsp,hc⟩:=SO.ok_cell (hs.obj _ _ hl) hne
   exact⟨_,by rw[hx,hsz];rfl,fun j v hj=>rB hsp hle hc j v hj⟩
 ·rename_i y
  split at h<;>try exact h.elim
  rename_i id hp
  split at h<;>try exact h.elim
  rename_i E k0 m hl
  split at h<;>try exact h.elim
  rename_i ys hcast
  obtain⟨e,he⟩:=EK.cast_spec hcast
  subst e
  change ys=aM m y.a at he
  obtain⟨hd,h⟩:=h
  refine⟨y.n,ys,h,?_,y.a,y.c,rfl,?_⟩
  ·rw[he]
   unfold Hd at hd
   unfold aM
   cases ha:y.a with
   |none=>rw[ha]at hd;simp[hd.1]
   |some a=>
    rw[ha]at hd
    simp only at hd⊢
    cases hl2:lkA m a with
    |none=>rw[hl2]at hd;exact hd.elim
    |some q=>rw[hl2]at hd;exact hd.1.symm
  ·unfold Hd at hd
   cases ha:y.a with
   |none=>rw[ha]at hd;exact .inl hd.1
   |some a=>
    right
    rw[ha]at hd
    simp only at hd
    cases hl2:lkA m a with
    |none=>rw[hl2]at hd;exact hd.elim
    |some q=>
     obtain⟨h1,_,pre,post,h3,h4,_⟩:=(hs.obj _ _ hl).row a q.1 q.2 hl2
     refine⟨a,rfl,fun j u hj=>?_⟩
     have hr:aM m (some a)=q.1:=by unfold aM;simp[hl2]
     rw[he,ha,hr]at hj
     rw[eR h1]
     exact jY h3 h4 j u hj
theorem Src.first {ek:EK} {v:Value} {n:Nat} {ys:List ek.ty} (hs:Src β w ek v n ys) {w':World} (hw: ∀x,w'.cell? x=w.cell? x):(Builtin.firstCells ek.sz n v).run P w'= .ok (aH ek ys).toArray w':=by
 obtain⟨hlen,x,cap,rfl,h⟩:=hs
 rcases h with rfl|⟨y,rfl,hc⟩
 ·have:ys=[]:=List.eq_nil_of_length_eq_zero hlen
  subst this
  cases x with
  |none=>simp[Builtin.firstCells,aH]
  |some x=>simp[Builtin.firstCells,loadCells,loadCellsFrom,aH]
 ·exact run_firstCells_some w' ek.sz n y n cap (aH ek ys) (by rw[aP,hlen]) (fun j u hj=>by rw[hw];exact hc j u hj)
theorem Src.lenOf {ek:EK} {v:Value} {n:Nat} {ys:List ek.ty} (hs:Src β w ek v n ys) {w':World}:(Builtin.lenOf v).run P w'= .ok n w':=by
 obtain⟨_,x,cap,rfl,_⟩:=hs
 rfl
theorem qZ {T E:Nat} {i:TypeInfo} (hu:P.underlying T=some (.slice E)) (hi:P.info? E=some i) {uv:Value} {n:Nat} (hlen: ∀w,(Builtin.lenOf uv).run P w= .ok n w)
  {news:List Value} (hfirst:(Builtin.firstCells i.size n uv).run P w= .ok news.toArray w) {g o len cap E0:Nat} {cur:List Value} (hroom:len+n<=cap)
  (hh:w.heap[g]?=some (.cells cur.toArray E0 (0,0))) (hfit:o+len*i.size+news.length<=cur.length) (h1: ∀v∈news,v.oneCell'=true) (type:TypeId):
  (Builtin.append_ #[T,T] type #[.slice (some ⟨g,o,none⟩) len cap,uv]).run P w=
   .ok (.slice (some ⟨g,o,none⟩) (len+n) cap) (w.setRow g (cur.take (o+len*i.size)++news++cur.drop (o+len*i.size+news.length)).toArray):=by
 have hst:=run_storeCells_at P g (o+len*i.size) E0 news 0 cur.toArray w hh (by simpa using hfit) h1
 simp only[Nat.add_zero]at hst
 simp[Builtin.append_,run_underlying hu,sizeOf,typeInfo,hi,hlen,hroom,hfirst,Addr.add_lit,hst]
theorem iT {T E:Nat} {i:TypeInfo} (hu:P.underlying T=some (.slice E)) (hi:P.info? E=some i) {uv:Value} (hlen: ∀w,(Builtin.lenOf uv).run P w= .ok 0 w)
  {news:List Value} (hfirst:(Builtin.firstCells i.size 0 uv).run P w= .ok news.toArray w) (type:TypeId):
  (Builtin.append_ #[T,T] type #[.slice none 0 0,uv]).run P w= .ok (.slice none 0 0) w:=by
 simp[Builtin.append_,run_underlying hu,sizeOf,typeInfo,hi,hlen,hfirst]
theorem fX {T E:Nat} {i:TypeInfo} {z:Value} (hu:P.underlying T=some (.slice E)) (hi:P.info? E=some i) (hz:i.zero=some z) {uv:Value} {n:Nat} (hlen: ∀w,(Builtin.lenOf uv).run P w= .ok n w)
  {news olds:List Value} (hfirst:(Builtin.firstCells i.size n uv).run P w.drew= .ok news.toArray w.drew) {base:Option Addr} {len cap:Nat}
  (hold:(Builtin.firstCells i.size len (.slice base len cap)).run P w.drew= .ok olds.toArray w.drew) (hroom:cap<len+n)
  (h63:len+n<=9223372036854775807) (hfit:Builtin.nextslicecap (len+n) cap*i.bytes<=281474976710656) (type:TypeId):
  (Builtin.append_ #[T,T] type #[.slice base len cap,uv]).run P w=
   .ok (.slice (some ⟨w.heap.size,0,none⟩) (len+n) (grownCap w (len+n) cap E))
    (w.drew.alloc (.cells (olds++news++(Builtin.zeroCells z.cells (grownCap w (len+n) cap E-(len+n))).toList).toArray E)):=by
 have hn: ¬(len+n<=cap):=by omega
 have h63': ¬(9223372036854775807<((len:Int)+(n:Int))):=by omega
 have h48': ¬(281474976710656<Builtin.nextslicecap (len+n) cap*i.bytes):=by omega
 simp[Builtin.append_,run_underlying hu,sizeOf,typeInfo,zeroValue,hi,hz,hlen,hn,h63',h48',Question.forced,hfirst,hold,newRow,grownCap]
 congr 2
 apply Array.ext'
 simp
theorem fT (ek:EK) {z:Value} (hz:z.cells.toList=ek.cells ek.dflt) (n:Nat):(Builtin.zeroCells z.cells n).toList.length=n*ek.sz:=by
 have hzs:z.cells.size=ek.sz:=by rw[<-Array.length_toList,hz,EK.cells_length]
 rw[Array.length_toList,size_zeroCells,hzs]
theorem Vo (ek:EK) (x:ek.ty): ∀v∈ek.cells x,v.oneCell'=true:=by
 intro v hv
 obtain⟨c,hc,rfl⟩:=List.mem_map.1 hv
 exact SC.den_one (EK.sym_lt ek x 0 c hc)
theorem uD (ek:EK) (xs:List ek.ty): ∀v∈aH ek xs,v.oneCell'=true:=by
 intro v hv
 obtain⟨x,_,hx⟩:=List.mem_flatMap.1 hv
 exact Vo ek x v hx
theorem Zn (hty:cZ P ty) (hs:aR β Z fp s w) (hf:cQ β s N a) {k:S->SV->Prop} {dst:Option Nat} {args:Array Operand} {argTypes:Array TypeId} {type:TypeId} {pos:String}
  {after:Array Edge} {guard:Option (Nat×Bool)} (h:lOp ty (.call ⟨.builtin .append,args,argTypes⟩) s k):LOk P β Z s w a ⟨dst,.call ⟨.builtin .append,args,argTypes⟩,type,pos,after,guard⟩ k:=by
 simp only[lOp,S.go_eq]at h
 split at h<;>try exact h.elim
 rename_i x y T T' h1 h2
 have ha:args= #[x,y]:=by apply Array.ext';simp[h1]
 have hat:argTypes= #[T,T']:=by apply Array.ext';simp[h2]
 subst ha hat
 split at h<;>try exact h.elim
 rename_i d v u hT hd hx hy
 rw[cH,decide_eq_true_eq]at hT
 subst hT
 split at h<;>try exact h.elim
 rename_i E ek bytes hsl
 obtain⟨hu,hE,i,z,hi,hz,hisz,hib,hzc⟩:=(hty T d hd).sl _ _ _ hsl
 obtain⟨hex,hltx⟩:=aI hf hx
 obtain⟨hey,hlty⟩:=aI hf hy
 have hrun: ∀r w',(Builtin.append_ #[T,T] type #[v.den β,u.den β]).run P w= .ok r w'->
   (execOp a.eval ⟨dst,.call ⟨.builtin .append, #[x,y], #[T,T]⟩,type,pos,after,guard⟩).run P w= .ok (.value r) w':=by
  intro r w' hr
  simp[execOp,resolve,invoke,builtin,hex,hey,hr]
 have finish: ∀(len n cap:Nat) (xs ys:List ek.ty) (base:Option Addr) (k':Prop) (s1:S),s1.fr=s.fr->s1.nx=s.nx->aR β Z fp s1 w->True:=fun _ _ _ _ _ _ _ _ _ _ _=>trivial
 unfold aCq at h
 split at h<;>try exact h.elim
 ·
  obtain⟨n,ys,h,hsrc⟩:=mO hs h
  obtain⟨⟨hb,h63⟩,h⟩:=h
  simp only[Nat.zero_add]at hb h63 h
  by_cases hn:n=0
  ·subst hn
   have hys:ys=[]:=List.eq_nil_of_length_eq_zero hsrc.len
   subst hys
   have hr:=hrun _ _ (iT hu hi (fun w=>hsrc.lenOf) (by rw[hisz];exact hsrc.first (fun _=>rfl)) type)
   refine⟨_,_,.c (.sl s.nx ek.sz 0 0 0),β.add s.nx none,fun i=>if i=s.nx then(fun _=>False)else fp i,⟨s.fr,(s.nx,.arr true E ek (lOp.appL [] []) 0)::s.hp,s.nx+1⟩,hr,.inl ?_,Env.add_lt,Ext.refl _ _,rfl,Nat.le_succ _,
    hs.add (o:= .arr true E ek (lOp.appL [] []) 0) (fun _ _=>rfl) (Nat.le_refl _) (fun _ h=>h.elim) ⟨rfl,rfl⟩ trivial,?_,h 0⟩
   ·simp[SV.den,SA.den,SC.den,Env.add_at]
   ·show s.nx<s.nx+1;omega
  ·have hr:=hrun _ _ (fX (w:=w) (base:=none) (len:=0) (cap:=0) (olds:= []) hu hi hz (fun w=>hsrc.lenOf) (by rw[hisz];exact hsrc.first (fun _=>rfl)) (by simp[Builtin.firstCells]) (by omega) (by omega)
    (by rw[hib];exact growslice_fits (by omega) (by simpa using hb)) type)
   simp only[Nat.zero_add]at hr
   have hg:=grownCap_ge w n 0 E
   refine Dr hs (E:=E) (xs:=ys) (sp:=grownCap w n 0 E-n) (post:=(Builtin.zeroCells z.cells (grownCap w n 0 E-n)).toList) hr (fun b hb=>by
    show(w.drew.alloc _).heap[b]?=_;exact aT (w:=w.drew) hb) (by simp) rfl rfl rfl ?_ (fT ek hzc _) ?_
   ·have:=bA (w:=w.drew) (.cells (([]:List Value)++aH ek ys++(Builtin.zeroCells z.cells (grownCap w n 0 E-n)).toList).toArray E)
    exact this
   ·have:=h (grownCap w n 0 E-n)
    rw[show n+(grownCap w n 0 E-n)=grownCap w n 0 E by omega]at this
    exact this
 ·
  rename_i id sz lo len cap
  split at h<;>try exact h.elim
  rename_i E0 k0 xs0 sp0 hl
  split at h<;>try exact h.elim
  rename_i xs hcast hsz hE0
  rw[cH,decide_eq_true_eq]at hsz hE0
  obtain⟨e,he⟩:=EK.cast_spec hcast
  subst e
  change xs=xs0 at he
  subst he
  subst hE0
  obtain⟨⟨hle,hcap,hlc⟩,h⟩:=h
  obtain⟨n,ys,h,hsrc⟩:=mO hs h
  simp only[aDO]at h
  rw[mF]at h
  obtain⟨⟨hb,h63⟩,h⟩:=h
  have hs1:=hs.del id
  have hok:=hs.obj _ _ hl
  have hsl':=rK xs lo len hle
  cases hbe:β id with
  |none=>
   rw[hbe]at hok
   obtain⟨hx0,hsp0⟩:=hok
   subst hx0 hsp0
   simp only[List.length_nil]at hle hcap
   have:lo=0/\len=0/\cap=0:=by omega
   obtain⟨rfl,rfl,rfl⟩:=this
   have hv:(SV.a (SA.c (SC.sl id sz 0 0 0))).den β= .slice none 0 0:=by simp[SV.den,SA.den,SC.den,hbe]
   rw[hv]at hrun
   have hsub:sub ([]:List k0.ty) 0 0=[]:=rfl
   rw[hsub]at h
   simp only[Nat.zero_add]at hb h63 h
   by_cases hn:n=0
   ·subst hn
    have hys:ys=[]:=List.eq_nil_of_length_eq_zero hsrc.len
    subst hys
    have hr:=hrun _ _ (iT hu hi (fun w=>hsrc.lenOf) (by rw[hisz];exact hsrc.first (fun _=>rfl)) type)
    refine⟨_,_,.c (.sl s.nx k0.sz 0 0 0),β.add s.nx none,fun i=>if i=s.nx then(fun _=>False)else fp i,⟨s.fr,(s.nx,.arr true E0 k0 (lOp.appL [] []) 0)::mY s.hp id,s.nx+1⟩,hr,.inl ?_,Env.add_lt,Ext.refl _ _,rfl,Nat.le_succ _,
     hs1.add (o:= .arr true E0 k0 (lOp.appL [] []) 0) (fun _ _=>rfl) (Nat.le_refl _) (fun _ h=>h.elim) ⟨rfl,rfl⟩ trivial,?_,h 0⟩
    ·simp[SV.den,SA.den,SC.den,Env.add_at]
    ·show s.nx<s.nx+1;omega
   ·have hr:=hrun _ _ (fX (w:=w) (base:=none) (len:=0) (cap:=0) (olds:= []) hu hi hz (fun w=>hsrc.lenOf) (by rw[hisz];exact hsrc.first (fun _=>rfl)) (by simp[Builtin.firstCells]) (by omega) (by omega)
     (by rw[hib];exact growslice_fits (by omega) (by simpa using hb)) type)
    simp only[Nat.zero_add]at hr
    have hg:=grownCap_ge w n 0 E0
    obtain⟨r,w',v',β',fp',s',R⟩:=Dr (P:=P) (k:=k) (a:=a) hs1 (E:=E0) (xs:=ys) (sp:=grownCap w n 0 E0-n) (post:=(Builtin.zeroCells z.cells (grownCap w n 0 E0-n)).toList) hr (fun b hb=>by
     show(w.drew.alloc _).heap[b]?=_;exact aT (w:=w.drew) hb) (by simp) rfl rfl rfl (by
      have:=bA (w:=w.drew) (.cells (([]:List Value)++aH k0 ys++(Builtin.zeroCells z.cells (grownCap w n 0 E0-n)).toList).toArray E0)
      exact this) (fT k0 hzc _) (by
      have:=h (grownCap w n 0 E0-n)
      rw[show n+(grownCap w n 0 E0-n)=grownCap w n 0 E0 by omega]at this
      exact this)
    exact⟨r,w',v',β',fp',s',R.run,R.val,R.env,R.ext,R.fr,R.nx,R.sat,R.lt,R.go⟩
  |some x'=>
   rw[hbe]at hok
   obtain⟨hsp,hfp,pre,post,hh,hpre,hpost⟩:=hok
   have hv:(SV.a (SA.c (SC.sl id sz lo len cap))).den β= .slice (some ⟨x'.block,x'.off+lo*sz,none⟩) len cap:=by
    simp[SV.den,SA.den,SC.den,hbe,eR hsp]
   rw[hv]at hrun
   have hfl:=aP k0 xs
   have hysl:(aH k0 ys).length=n*k0.sz:=by rw[aP,hsrc.len]
   by_cases hroom:len+n<=cap
   ·have hmul:(lo+len)*k0.sz+n*k0.sz<=(aH k0 xs).length+post.length:=by
     refine Nat.le_trans ?_ (Nat.add_le_add_left hpost _)
     rw[hfl,<-Nat.add_mul,<-Nat.add_mul]
     exact Nat.mul_le_mul_right _ (by omega)
    have hr:=hrun _ _ (qZ (w:=w) (g:=x'.block) (o:=x'.off+lo*sz) (len:=len) (cap:=cap) (E0:=E0) (cur:=pre++aH k0 xs++post) hu hi (fun w=>hsrc.lenOf) (by rw[hisz];exact hsrc.first (fun _=>rfl)) hroom hh
     (by rw[hisz,hysl,List.length_append,List.length_append,hpre,hsz,Nat.add_assoc x'.off,<-Nat.add_mul];omega) (uD k0 ys) type)
    have e1:x'.off+lo*sz+len*i.size=pre.length+(lo+len)*k0.sz:=by rw[hisz,hsz,Nat.add_mul,hpre];omega
    have hll:(lo+len)*k0.sz<=(aH k0 xs).length:=by rw[hfl];exact Nat.mul_le_mul_right _ hle
    rw[e1,oB pre (aH k0 xs) post _ _ rfl hll]at hr
    have hnew: ∃pre' post':List Value,pre++(aH k0 xs).take ((lo+len)*k0.sz)++aH k0 ys++(pre++aH k0 xs++post).drop (pre.length+(lo+len)*k0.sz+(aH k0 ys).length)=
      pre'++aH k0 (lOp.appL (sub xs lo len) ys)++post'/\pre'.length=x'.off+lo*k0.sz/\(cap-(len+n))*k0.sz<=post'.length:=by
     refine⟨pre++(aH k0 xs).take (lo*k0.sz),(pre++aH k0 xs++post).drop (pre.length+(lo+len)*k0.sz+(aH k0 ys).length),?_,?_,?_⟩
     ·unfold lOp.appL
      rw[bB]
      have:=yH k0 xs lo len hle
      have t1:(aH k0 xs).take ((lo+len)*k0.sz)=(aH k0 xs).take (lo*k0.sz)++aH k0 (sub xs lo len):=by
       have l1:((aH k0 xs).take (lo*k0.sz)++aH k0 (sub xs lo len)).length=(lo+len)*k0.sz:=by
        rw[List.length_append,List.length_take,aP k0 (sub xs lo len),hsl',Nat.min_eq_left (by rw[hfl];exact Nat.mul_le_mul_right _ (by omega)),Nat.add_mul]
       conv=>lhs;rw[this]
       rw[<-l1,List.take_left]
      rw[t1]
      simp only[List.append_assoc]
     ·have:lo*k0.sz<=(aH k0 xs).length:=by rw[hfl];exact Nat.mul_le_mul_right _ (by omega)
      rw[List.length_append,List.length_take,Nat.min_eq_left this,hpre]
     ·rw[List.length_drop,List.length_append,List.length_append,hfl,hysl]
      have h3:(cap-(len+n))*k0.sz+((lo+len)*k0.sz+n*k0.sz)=(lo+cap)*k0.sz:=by
       rw[<-Nat.add_mul,<-Nat.add_mul];congr 1;omega
      have h4:(lo+cap)*k0.sz<=(xs.length+sp0)*k0.sz:=Nat.mul_le_mul_right _ hcap
      rw[Nat.add_mul xs.length]at h4
      omega
    obtain⟨pre',post',hnew,hpre',hpost'⟩:=hnew
    rw[hnew]at hr
    refine⟨_,_,.c (.sl s.nx k0.sz 0 (len+n) cap),β.add s.nx (some ⟨x'.block,x'.off+lo*sz,none⟩),_,⟨s.fr,(s.nx,.arr true E0 k0 (lOp.appL (sub xs lo len) ys) (cap-(len+n)))::mY s.hp id,s.nx+1⟩,hr,.inl ?_,Env.add_lt,
     Ext.setRow _ (hs.flt _ _ hl _ hfp).2,rfl,Nat.le_succ _,hs.move (o':= .arr true E0 k0 (lOp.appL (sub xs lo len) ys) (cap-(len+n))) hl (fun b hb=>setRow_other w _ b _ (fun e=>hb (e▸hfp))) (by simp) ?_ trivial,?_,?_⟩
    ·simp[SV.den,SA.den,SC.den,Env.add_at,Addr.add_lit]
    ·refine⟨rfl,hfp,pre',post',?_,?_,?_⟩
     ·rw[setRow_heap w _ _ _ E0 _ hh]
     ·rw[hpre',hsz]
     ·exact hpost'
    ·show s.nx<s.nx+1;omega
    ·have:=h (cap-(len+n))
     rw[show len+n+(cap-(len+n))=cap by omega]at this
     exact this
   ·have hcells: ∀j v,(aH k0 (sub xs lo len))[j]?=some v->w.cell? ((x'.add (lo*k0.sz)).add j)=some v:=
     fun j v hj=>rB hsp hle (fun j v hj=>jY hh hpre j v hj) j v hj
    have hr:=hrun _ _ (fX (w:=w) (base:=some ⟨x'.block,x'.off+lo*sz,none⟩) (len:=len) (cap:=cap) (olds:=aH k0 (sub xs lo len)) hu hi hz (fun w=>hsrc.lenOf) (by rw[hisz];exact hsrc.first (fun _=>rfl))
     (by rw[hisz,hsz,<-eR hsp];exact run_firstCells_some w.drew k0.sz len _ len cap _ (by rw[aP,hsl']) hcells) (by omega) (by omega)
     (by rw[hib];exact growslice_fits (by omega) hb) type)
    have hg:=grownCap_ge w (len+n) cap E0
    obtain⟨r,w',v',β',fp',s',R⟩:=Dr (P:=P) (k:=k) (a:=a) hs1 (E:=E0) (xs:=lOp.appL (sub xs lo len) ys) (sp:=grownCap w (len+n) cap E0-(len+n)) (post:=(Builtin.zeroCells z.cells (grownCap w (len+n) cap E0-(len+n))).toList) hr (fun b hb=>by
     show(w.drew.alloc _).heap[b]?=_;exact aT (w:=w.drew) hb) (by simp) rfl rfl rfl (by
      have:=bA (w:=w.drew) (.cells (aH k0 (sub xs lo len)++aH k0 ys++(Builtin.zeroCells z.cells (grownCap w (len+n) cap E0-(len+n))).toList).toArray E0)
      unfold lOp.appL
      rw[bB]
      exact this) (fT k0 hzc _) (by
      have:=h (grownCap w (len+n) cap E0-(len+n))
      rw[show len+n+(grownCap w (len+n) cap E0-(len+n))=grownCap w (len+n) cap E0 by omega]at this
      exact this)
    exact⟨r,w',v',β',fp',s',R.run,R.val,R.env,R.ext,R.fr,R.nx,R.sat,R.lt,R.go⟩
theorem Zk (hs:aR β Z fp s w) {o:Oper} {k:S->SV->Prop} {id:Nat} {ob ob':SO} {g:Nat} {cs:Array Value} {v:SV} (hl:aE s.hp id=some ob) (hg:fp id g)
  (hrun:(execOp a.eval o).run P w= .ok (.value (v.den β)) (w.setRow g cs)) (hok:ob'.ok β Z (fp id) (w.setRow g cs) (β id)) (hlt:ob'.lt s.nx) (hv:v.lt s.nx)
  (h:k ⟨s.fr,upd s.hp id ob',s.nx⟩ v):LOk P β Z s w a o k:=
 ⟨_,_,v,β,fp,⟨s.fr,upd s.hp id ob',s.nx⟩,hrun,.inl rfl,fun _ _=>rfl,Ext.setRow _ (hs.flt _ _ hl g hg).2,rfl,Nat.le_refl _,
  hs.put hl (fun b hb=>setRow_other w g b cs (fun e=>hb (e▸hg))) (by simp) hok hlt,hv,h⟩
theorem aCR (hty:cZ P ty) (hs:aR β Z fp s w) (hf:cQ β s N a) {k:S->SV->Prop} {dst:Option Nat} {args:Array Operand} {argTypes:Array TypeId} {type:TypeId} {pos:String}
  {after:Array Edge} {guard:Option (Nat×Bool)} (h:lOp ty (.call ⟨.builtin .copy,args,argTypes⟩) s k):LOk P β Z s w a ⟨dst,.call ⟨.builtin .copy,args,argTypes⟩,type,pos,after,guard⟩ k:=by
 simp only[lOp,S.go_eq]at h
 split at h<;>try exact h.elim
 rename_i x y T T' h1 h2
 have ha:args= #[x,y]:=by apply Array.ext';simp[h1]
 have hat:argTypes= #[T,T']:=by apply Array.ext';simp[h2]
 subst ha hat
 split at h<;>try exact h.elim
 rename_i d id sz lo len cap u hd hx hy
 split at h<;>try exact h.elim
 rename_i E ek bytes E0 k0 xs0 sp hsl hl
 split at h<;>try exact h.elim
 rename_i xs hcast hsz hE0
 rw[cH,decide_eq_true_eq]at hsz hE0
 obtain⟨e,he⟩:=EK.cast_spec hcast
 subst e
 change xs=xs0 at he
 subst he
 subst hE0 hsz
 obtain⟨hle,h⟩:=h
 obtain⟨n,ys,h,hsrc⟩:=mO hs h
 rw[aX]at h
 obtain⟨hu,hE,i,z,hi,hz,hisz,hib,hzc⟩:=(hty T d hd).sl _ _ _ hsl
 obtain⟨hex,hltx⟩:=aI hf hx
 obtain⟨hey,hlty⟩:=aI hf hy
 have hrun: ∀r w',(Builtin.copy_ #[T,T'] type #[SV.den β (.a (.c (.sl id k0.sz lo len cap))),u.den β]).run P w= .ok r w'->
   (execOp a.eval ⟨dst,.call ⟨.builtin .copy, #[x,y], #[T,T']⟩,type,pos,after,guard⟩).run P w= .ok (.value r) w':=by
  intro r w' hr
  simp[execOp,resolve,invoke,builtin,hex,hey,hr]
 have hmn:Nat.min n len<=n:=Nat.min_le_left _ _
 have hml:Nat.min n len<=len:=Nat.min_le_right _ _
 have hylen:=hsrc.len
 have hfirst:(Builtin.firstCells k0.sz (Nat.min n len) (u.den β)).run P w= .ok (aH k0 (ys.take (Nat.min n len))).toArray w:=by
  have hsrc':Src β w k0 (u.den β) n ys:=hsrc
  obtain⟨_,x',cap',hv,hcase⟩:=hsrc'
  rw[hv]
  by_cases h0:Nat.min n len=0
  ·rw[h0]
   cases x' with
   |none=>simp[Builtin.firstCells,aH]
   |some x'=>simp[Builtin.firstCells,loadCells,loadCellsFrom,aH]
  ·rcases hcase with h1|⟨y',rfl,hc⟩
   ·omega
   ·refine run_firstCells_some w k0.sz _ y' n cap' (aH k0 (ys.take (Nat.min n len))) (by rw[aP,List.length_take,Nat.min_eq_left (by omega)]) (fun j v hj=>hc j v ?_)
    have:aH k0 ys=aH k0 (ys.take (Nat.min n len))++aH k0 (ys.drop (Nat.min n len)):=by rw[<-bB,List.take_append_drop]
    rw[this]
    rw[List.getElem?_append_left (List.getElem?_eq_some_iff.1 hj).1]
    exact hj
 have hok:=hs.obj _ _ hl
 cases hb:β id with
 |none=>
  rw[hb]at hok
  obtain⟨rfl,rfl⟩:=hok
  have hlen0:len=0:=by simp at hle;omega
  subst hlen0
  have hm0:Nat.min n 0=0:=Nat.min_zero n
  rw[hm0]at h hfirst
  have hr:(Builtin.copy_ #[T,T'] type #[SV.den β (.a (.c (.sl id k0.sz lo 0 cap))),u.den β]).run P w= .ok (goInt (0:Nat)) w:=by
   have hlo:=fun w'=>hsrc.lenOf (P:=P) (w':=w')
   generalize u.den β=uv at hlo hfirst⊢
   simp only[SV.den,SA.den,SC.den,hb,Option.map_none]
   simp[Builtin.copy_,run_underlying hu,hlo,hE,hm0,hfirst]
  refine⟨_,w,.i (0:Nat),β,fp,⟨s.fr,upd s.hp id _,s.nx⟩,hrun _ _ hr,.inl rfl,fun _ _=>rfl,Ext.refl _ _,rfl,Nat.le_refl _,?_,trivial,h⟩
  refine hs.put (w':=w) hl (fun _ _=>rfl) rfl ?_ trivial
  rw[hb]
  simp[lOp.cpL,SO.ok]
 |some x'=>
  rw[hb]at hok
  obtain⟨hsp,hfp,pre,post,hh,hpre,hpost⟩:=hok
  have hml2:lo*k0.sz+(Nat.min n len)*k0.sz<=(aH k0 xs).length:=by
   rw[aP,<-Nat.add_mul];exact Nat.mul_le_mul_right _ (by omega)
  have hst:=run_storeCells_at P x'.block (x'.off+lo*k0.sz) E (aH k0 (ys.take (Nat.min n len))) 0 (pre++aH k0 xs++post).toArray w hh
   (by simp only[Nat.add_zero,aP,List.length_take,List.size_toArray,List.length_append];rw[Nat.min_eq_left (show Nat.min n len<=ys.length by omega)];rw[aP]at hml2;omega) (uD k0 _)
  simp only[Nat.add_zero]at hst
  have hr:(Builtin.copy_ #[T,T'] type #[SV.den β (.a (.c (.sl id k0.sz lo len cap))),u.den β]).run P w= .ok (goInt (Nat.min n len:Nat)) (w.setRow x'.block (pre++aH k0 (lOp.cpL xs lo (Nat.min n len) ys)++post).toArray):=by
   have hlo:=fun w'=>hsrc.lenOf (P:=P) (w':=w')
   generalize u.den β=uv at hlo hfirst⊢
   simp only[SV.den,SA.den,SC.den,hb,Option.map_some,eR hsp]
   have e2:(aH k0 (ys.take (Nat.min n len))).length=Nat.min n len*k0.sz:=by rw[aP,List.length_take,Nat.min_eq_left (show Nat.min n len<=ys.length by omega)]
   have e1:(w.setRow x'.block ((pre++aH k0 xs++post).take (x'.off+lo*k0.sz)++aH k0 (ys.take (Nat.min n len))++(pre++aH k0 xs++post).drop (x'.off+lo*k0.sz+(aH k0 (ys.take (Nat.min n len))).length)).toArray)=
     (w.setRow x'.block (pre++aH k0 (lOp.cpL xs lo (Nat.min n len) ys)++post).toArray):=by
    rw[e2,oB pre (aH k0 xs) post _ (lo*k0.sz) (by omega) (by omega),uF pre (aH k0 xs) post _ (lo*k0.sz+Nat.min n len*k0.sz) (by omega) hml2]
    congr 2
    unfold lOp.cpL
    rw[bB,bB]
    have hsf:=yH k0 xs lo (Nat.min n len) (by omega)
    have l1:aH k0 (xs.take lo)=(aH k0 xs).take (lo*k0.sz):=by
     have e3:aH k0 xs=aH k0 (xs.take lo)++aH k0 (xs.drop lo):=by rw[<-bB,List.take_append_drop]
     have e4:(aH k0 (xs.take lo)).length=lo*k0.sz:=by rw[aP,List.length_take,Nat.min_eq_left (by omega)]
     rw[e3,<-e4,List.take_left]
    have l2:aH k0 (xs.drop (lo+Nat.min n len))=(aH k0 xs).drop (lo*k0.sz+Nat.min n len*k0.sz):=by
     have e3:aH k0 xs=aH k0 (xs.take (lo+Nat.min n len))++aH k0 (xs.drop (lo+Nat.min n len)):=by rw[<-bB,List.take_append_drop]
     have e4:(aH k0 (xs.take (lo+Nat.min n len))).length=lo*k0.sz+Nat.min n len*k0.sz:=by rw[aP,List.length_take,Nat.min_eq_left (by omega),Nat.add_mul]
     rw[e3,<-e4,List.drop_left]
    rw[l1,l2]
    simp[List.append_assoc]
   rw[<-e1]
   simp[Builtin.copy_,run_underlying hu,hlo,hE,hfirst,hst]
  refine Zk (v:= .i (Nat.min n len:Nat)) (ob':= .arr true E k0 (lOp.cpL xs lo (Nat.min n len) ys) sp) hs hl hfp (hrun _ _ hr) ?_ trivial trivial h
  rw[hb]
  refine⟨hsp,hfp,pre,post,?_,hpre,hpost⟩
  rw[setRow_heap w _ _ _ E _ hh]
end
end Go.Fw
namespace Go.Fw
open Go
open Go.ChangeMaps (setBlock)
theorem fC {α:Type} (a:Addr) (y:α): ∀(m:List (Addr×α)) (b:Addr),lkA (tA m a y) b=(lkA m b).map fun x=>if b=a then y else x
 | [],b=>rfl
 |(c,x)::m,b=>by
  have ih:=fC a y m b
  unfold tA at ih⊢
  simp only[List.map_cons]
  by_cases hca:c=a
  ·subst hca
   simp only[if_true,lkA]
   by_cases hcb:c=b
   ·subst hcb;simp
   ·rw[if_neg hcb,if_neg hcb];exact ih
  ·simp only[if_neg hca,lkA]
   by_cases hcb:c=b
   ·subst hcb;simp[hca]
   ·rw[if_neg hcb,if_neg hcb];exact ih
section
variable {P:Program} {ty:List (Nat×STy)} {β:Env} {Z:Nat->Prop} {fp:Nat->Nat->Prop} {s:S} {w:World} {N:NT} {a:Act}
theorem gF.set {f:Nat->Prop} {w':World} {E:Nat} {k:EK} {m:List (Addr×List k.ty×Nat)} (h:gF f w E k m) {x:Addr} {y y':List k.ty×Nat} (hl:lkA m x=some y)
  (hw: ∀b,b≠x.block->f b->w'.heap[b]?=w.heap[b]?) (hh: ∃pre post,w'.heap[x.block]?=some (.cells (pre++aH k y'.1++post).toArray E (0,0))/\pre.length=x.off/\y'.2*k.sz<=post.length):gF f w' E k (tA m x y'):=by
 obtain⟨s1,f1,_⟩:=h.row x y.1 y.2 hl
 refine⟨fun b xs sp hb=>?_,fun b b' z z' hb hb' hbb=>?_⟩
 ·rw[fC]at hb
  by_cases e:b=x
  ·subst e
   rw[hl]at hb
   simp only[Option.map_some,if_true,Option.some.injEq]at hb
   subst hb
   exact⟨s1,f1,hh⟩
  ·obtain⟨q,hq,hq2⟩:=Option.map_eq_some_iff.1 hb
   rw[if_neg e]at hq2
   subst hq2
   obtain⟨t1,t2,pre,post,t3,t4,t5⟩:=h.row b xs sp hq
   exact⟨t1,t2,pre,post,by rw[hw _ (fun e2=>e (h.one _ _ _ _ hq hl e2)) t2,t3],t4,t5⟩
 ·rw[fC]at hb hb'
  obtain⟨q,hq,_⟩:=Option.map_eq_some_iff.1 hb
  obtain⟨q',hq',_⟩:=Option.map_eq_some_iff.1 hb'
  exact h.one _ _ _ _ hq hq' hbb
theorem gF.cons {f g:Nat->Prop} {w':World} {E:Nat} {k:EK} {m:List (Addr×List k.ty×Nat)} (h:gF f w E k m) {x:Addr} {y:List k.ty×Nat} (hb: ∀b z,lkA m b=some z->b.block≠x.block)
  (hw: ∀b,f b->w'.heap[b]?=w.heap[b]?) (hfg: ∀b,f b->g b) (hs:x.spot=none) (hg:g x.block) (hh: ∃pre post,w'.heap[x.block]?=some (.cells (pre++aH k y.1++post).toArray E (0,0))/\pre.length=x.off/\y.2*k.sz<=post.length):gF g w' E k ((x,y)::m):=by
 refine⟨fun b xs sp hl=>?_,fun b b' z z' hl hl' hbb=>?_⟩
 ·simp only[lkA]at hl
  split at hl
  ·rename_i e
   subst e
   cases hl
   exact⟨hs,hg,hh⟩
  ·obtain⟨t1,t2,pre,post,t3,t4,t5⟩:=h.row b xs sp hl
   exact⟨t1,hfg _ t2,pre,post,by rw[hw _ t2,t3],t4,t5⟩
 ·simp only[lkA]at hl hl'
  split at hl<;>split at hl'
  ·rename_i e e';exact e.symm.trans e'
  ·rename_i e _;subst e;exact absurd hbb.symm (hb _ _ hl')
  ·rename_i _ e;subst e;exact absurd hbb (hb _ _ hl)
  ·exact h.one _ _ _ _ hl hl' hbb
theorem aR.grow (hs:aR β Z fp s w) {id:Nat} {o o':SO} (hl:aE s.hp id=some o) {w':World} {q:Nat->Prop} (hw: ∀b,b<w.heap.size-> ¬fp id b->w'.heap[b]?=w.heap[b]?) (hsz:w.heap.size<=w'.heap.size)
  (hq: ∀b,q b->(fp id b\/w.heap.size<=b)/\b<w'.heap.size) (ho:o'.ok β Z q w' (β id)) (hlt:o'.lt s.nx):aR β Z (fun i=>if i=id then q else fp i) ⟨s.fr,upd s.hp id o',s.nx⟩ w':=by
 have hlook: ∀id' o'',aE (upd s.hp id o') id'=some o''->(id'=id/\o''=o')\/(id'≠id/\aE s.hp id'=some o''):=by
  intro id' o'' h
  rw[cJ]at h
  split at h
  ·rename_i e;exact .inl ⟨e.symm,by cases h;rfl⟩
  ·rename_i e;exact .inr ⟨fun e2=>e e2.symm,h⟩
 have hqz: ∀b,q b-> ¬Z b:=by
  intro b hb hz
  rcases(hq b hb).1 with h|h
  ·exact(hs.flt id o hl b h).2 hz
  ·have:=hs.zlt b hz;omega
 have hqo: ∀b id' o'',q b->id'≠id->aE s.hp id'=some o''-> ¬fp id' b:=by
  intro b id' o'' hb hne hl' hf
  rcases(hq b hb).1 with h|h
  ·exact hs.sep id id' o o'' hl hl' (fun e=>hne e.symm) b h hf
  ·have:=(hs.flt id' o'' hl' b hf).1;omega
 refine⟨⟨hs.zlt'.1,fun b hb=>Nat.lt_of_lt_of_le (hs.zlt b hb) hsz⟩,?_,?_,?_,?_⟩
 ·intro id' o'' h b hb
  rcases hlook _ _ h with⟨rfl,rfl⟩|⟨hne,h'⟩
  ·simp only[if_true]at hb;exact⟨(hq b hb).2,hqz b hb⟩
  ·simp only[if_neg hne]at hb
   have:=hs.flt _ _ h' b hb
   exact⟨by omega,this.2⟩
 ·intro i j oi oj hi hj hij b hb hb'
  rcases hlook _ _ hi with⟨rfl,rfl⟩|⟨h1,h1'⟩<;>rcases hlook _ _ hj with⟨rfl,rfl⟩|⟨h2,h2'⟩
  ·exact hij rfl
  ·simp only[if_true]at hb
   simp only[if_neg h2]at hb'
   exact hqo b j _ hb h2 h2' hb'
  ·simp only[if_true]at hb'
   simp only[if_neg h1]at hb
   exact hqo b i _ hb' h1 h1' hb
  ·simp only[if_neg h1]at hb
   simp only[if_neg h2]at hb'
   exact hs.sep i j _ _ h1' h2' hij b hb hb'
 ·intro id' o'' h
  rcases hlook _ _ h with⟨rfl,rfl⟩|⟨hne,h'⟩
  ·simp only[if_true];exact ho
  ·simp only[if_neg hne]
   refine SO.ok_mono (hs.obj _ _ h') (hs.lto _ _ h').2 (fun _ _=>rfl) (fun _ h=>h) ?_ hsz hs.zlt'.1
   intro b hb
   rcases hb with hb|hb
   ·exact hw b (hs.zlt b hb) (fun hf=>(hs.flt _ _ hl b hf).2 hb)
   ·exact hw b (hs.flt _ _ h' b hb).1 (fun hf=>hs.sep id id' _ _ hl h' (fun e=>hne e.symm) b hf hb)
 ·intro id' o'' h
  rcases hlook _ _ h with⟨rfl,rfl⟩|⟨hne,h'⟩
  ·exact⟨(hs.lto _ _ hl).1,hlt⟩
  ·exact hs.lto _ _ h'
theorem aR.merge (hs:aR β Z fp s w) {id pid:Nat} {o p p':SO} (hl:aE s.hp id=some o) (hp:aE s.hp pid=some p) (hne:id≠pid) (ho:p'.ok β Z (fun b=>fp pid b\/fp id b) w (β pid)) (hlt:p'.lt s.nx):
  aR β Z (fun i=>if i=pid then(fun b=>fp pid b\/fp id b)else fp i) ⟨s.fr,upd (mY s.hp id) pid p',s.nx⟩ w:=by
 have hlook: ∀id' o'',aE (upd (mY s.hp id) pid p') id'=some o''->(id'=pid/\o''=p')\/(id'≠pid/\id≠id'/\aE s.hp id'=some o''):=by
  intro id' o'' h
  rw[cJ]at h
  split at h
  ·rename_i e;exact .inl ⟨e.symm,by cases h;rfl⟩
  ·rename_i e
   rw[jV]at h
   split at h
   ·cases h
   ·rename_i e2;exact .inr ⟨fun e3=>e e3.symm,e2,h⟩
 refine⟨hs.zlt',?_,?_,?_,?_⟩
 ·intro id' o'' h b hb
  rcases hlook _ _ h with⟨rfl,rfl⟩|⟨h1,h2,h'⟩
  ·simp only[if_true]at hb
   rcases hb with hb|hb
   ·exact hs.flt _ _ hp b hb
   ·exact hs.flt _ _ hl b hb
  ·simp only[if_neg h1]at hb
   exact hs.flt _ _ h' b hb
 ·intro i j oi oj hi hj hij b hb hb'
  rcases hlook _ _ hi with⟨rfl,rfl⟩|⟨h1,h1e,h1'⟩<;>rcases hlook _ _ hj with⟨rfl,rfl⟩|⟨h2,h2e,h2'⟩
  ·exact hij rfl
  ·simp only[if_true]at hb
   simp only[if_neg h2]at hb'
   rcases hb with hb|hb
   ·exact hs.sep i j _ _ hp h2' hij b hb hb'
   ·exact hs.sep id j _ _ hl h2' h2e b hb hb'
  ·simp only[if_true]at hb'
   simp only[if_neg h1]at hb
   rcases hb' with hb'|hb'
   ·exact hs.sep i j _ _ h1' hp hij b hb hb'
   ·exact hs.sep id i _ _ hl h1' h1e b hb' hb
  ·simp only[if_neg h1]at hb
   simp only[if_neg h2]at hb'
   exact hs.sep i j _ _ h1' h2' hij b hb hb'
 ·intro id' o'' h
  rcases hlook _ _ h with⟨rfl,rfl⟩|⟨h1,h2,h'⟩
  ·simp only[if_true];exact ho
  ·simp only[if_neg h1];exact hs.obj _ _ h'
 ·intro id' o'' h
  rcases hlook _ _ h with⟨rfl,rfl⟩|⟨h1,h2,h'⟩
  ·exact⟨(hs.lto _ _ hp).1,hlt⟩
  ·exact hs.lto _ _ h'
theorem aCe (n:Nat):SV.u.lt n:=by intro c hc;cases hc
theorem aBt (hty:cZ P ty) (hs:aR β Z fp s w) (hf:cQ β s N a) {k:S->SV->Prop} {dst:Option Nat} {T:TypeId} {x y:Operand} {type:TypeId} {pos:String}
  {after:Array Edge} {guard:Option (Nat×Bool)} (h:mOp ty (.store T x y) s k):LOk P β Z s w a ⟨dst,.store T x y,type,pos,after,guard⟩ k:=by
 simp only[mOp,S.go_eq]at h
 split at h<;>try exact h.elim
 rename_i d id sz q i off v hd hx hy
 split at h<;>try exact h.elim
 rename_i E ek m cs hl hcs
 split at h<;>try exact h.elim
 rename_i hlen hsz
 rw[cH,bD,bD,decide_eq_true_eq]at hlen
 rw[cH,decide_eq_true_eq]at hsz
 subst hsz
 obtain⟨hi,h⟩:=h
 obtain⟨hex,_⟩:=aI hf hx
 obtain⟨hey,hlt⟩:=aI hf hy
 obtain⟨hc,hcl⟩:=kV (β:=β) hcs hlt
 obtain⟨x',yy,rfl,hla,hra⟩:=tC hi
 rw[hra]at hi h
 have hpool:gF (fp id) w E ek m:=hs.obj _ _ hl
 obtain⟨hsp,hfp,pre,post,hh,hpre,hpost⟩:=hpool.row x' yy.1 yy.2 hla
 have hil:i*ek.sz+ek.sz<=(aH ek yy.1).length:=by
  rw[aP,<-Nat.succ_mul];exact Nat.mul_le_mul_right _ hi
 have hput: ∀e,mR m (some x') i e=tA m x' (yy.1.set i e,yy.2):=by
  intro e;unfold mR;simp[hla]
 have hrun: ∀(vs:List Value),cs.map (SC.den β)=vs->i*ek.sz+off+vs.length<=(aH ek yy.1).length->
   (execOp a.eval ⟨dst,.store T x y,type,pos,after,guard⟩).run P w=
    .ok .skip (w.setRow x'.block (pre++((aH ek yy.1).take (i*ek.sz+off)++vs++(aH ek yy.1).drop (i*ek.sz+off+vs.length))++post).toArray):=by
  intro vs hvs hfit
  have hr:=oK (P:=P) (w:=w) (hty T d hd) (b:=x'.block) (off:=x'.off+(i*ek.sz+off)) (cur:=pre++aH ek yy.1++post) (vs:=vs) hh (by rw[<-hvs];simpa using hlen)
   (by simp only[List.length_append];omega)
   (by intro v hv;rw[<-hvs]at hv;obtain⟨c,hc',rfl⟩:=List.mem_map.1 hv;exact SC.den_one (hcl c hc')) (by rw[<-hvs];exact hc)
  have hex':a.eval x= .pointer (some ⟨x'.block,x'.off+(i*ek.sz+off),none⟩):=by rw[hex];simp[SV.den,SA.den,SC.den,eR hsp]
  simp only[execOp,hex',hey,Sem.run_bind,hr,Result.andThen_ok,Sem.run_pure]
  rw[oB pre (aH ek yy.1) post _ (i*ek.sz+off) (by omega) (by omega),uF pre (aH ek yy.1) post _ (i*ek.sz+off+vs.length) (by omega) (by omega)]
  simp[List.append_assoc]
 have fin: ∀(vs:List Value) (e:ek.ty),cs.map (SC.den β)=vs->i*ek.sz+off+vs.length<=(aH ek yy.1).length->
   aH ek (yy.1.set i e)=(aH ek yy.1).take (i*ek.sz+off)++vs++(aH ek yy.1).drop (i*ek.sz+off+vs.length)->
   k ⟨s.fr,upd s.hp id (.pool E ek (mR m (some x') i e)),s.nx⟩ .u->LOk P β Z s w a ⟨dst,.store T x y,type,pos,after,guard⟩ k:=by
  intro vs e hvs hfit hfl hk
  refine Zm (ob':= .pool E ek (mR m (some x') i e)) hs hl hfp (hrun vs hvs hfit) ?_ trivial hk
  rw[hput]
  refine hpool.set hla (fun b hb _=>setRow_other w _ b _ hb) ⟨pre,post,?_,hpre,hpost⟩
  rw[setRow_heap w _ _ _ E _ hh,hfl]
 split at h
 ·rename_i hagg
  split at h<;>try exact h.elim
  rename_i e h0 he
  rw[cH,decide_eq_true_eq]at h0
  subst h0
  rw[aX]at h
  have hcl':=dI (β:=β) he
  have hcsz:=EK.cells_length ek e
  refine fin (ek.cells e) e hcl' (by omega) ?_ h
  rw[Ac ek e yy.1 i hi,hcsz];rfl
 ·rename_i hagg
  split at h<;>try exact h.elim
  rename_i c
  split at h<;>try exact h.elim
  rename_i e he
  rw[aX]at h
  obtain⟨he1,he2⟩:=Cr (β:=β) he
  refine fin [c.den β] e rfl (by simp only[List.length_singleton];omega) ?_ h
  rw[vX ek e off _ he2 yy.1 i hi he1,qW _ _ _ (by omega)]
  rfl
theorem Zc (hty:cZ P ty) (hs:aR β Z fp s w) (hf:cQ β s N a) {k:S->SV->Prop} {dst:Option Nat} {args:Array Operand} {argTypes:Array TypeId} {type:TypeId} {pos:String}
  {after:Array Edge} {guard:Option (Nat×Bool)} (h:mOp ty (.call ⟨.builtin .append,args,argTypes⟩) s k):LOk P β Z s w a ⟨dst,.call ⟨.builtin .append,args,argTypes⟩,type,pos,after,guard⟩ k:=by
 simp only[mOp,S.go_eq]at h
 split at h<;>try exact h.elim
 rename_i x y T T' h1 h2
 have ha:args= #[x,y]:=by apply Array.ext';simp[h1]
 have hat:argTypes= #[T,T']:=by apply Array.ext';simp[h2]
 subst ha hat
 split at h<;>try exact h.elim
 rename_i d hdr u hT hd hx hy
 rw[cH,decide_eq_true_eq]at hT
 subst hT
 split at h<;>try exact h.elim
 rename_i E ek bytes hsl
 split at h<;>try exact h.elim
 rename_i id hp
 split at h<;>try exact h.elim
 rename_i E0 k0 m hl
 split at h<;>try exact h.elim
 rename_i hb1 hE0
 have e1:=EK.beq_eq hb1
 rw[cH,decide_eq_true_eq]at hE0
 subst e1 hE0
 obtain⟨hu,hE,i,z,hi,hz,hisz,hib,hzc⟩:=(hty T d hd).sl _ _ _ hsl
 obtain⟨hex,hltx⟩:=aI hf hx
 obtain⟨hey,hlty⟩:=aI hf hy
 have hrun: ∀r w',(Builtin.append_ #[T,T] type #[.slice hdr.a hdr.n hdr.c,u.den β]).run P w= .ok r w'->
   (execOp a.eval ⟨dst,.call ⟨.builtin .append, #[x,y], #[T,T]⟩,type,pos,after,guard⟩).run P w= .ok (.value r) w':=by
  intro r w' hr
  have hex':a.eval x= .slice hdr.a hdr.n hdr.c:=hex
  simp[execOp,resolve,invoke,builtin,hex',hey,hr]
 obtain⟨n,ys,h,hsrc⟩:=mO hs h
 obtain⟨⟨hd,hb,h63⟩,h⟩:=h
 simp only[aX]at h
 have hpool:gF (fp id) w E0 k0 m:=hs.obj _ _ hl
 have hplt:id<s.nx:=(hs.lto _ _ hl).1
 have hnew:lkA m ⟨w.heap.size,0,none⟩=none:=by
  cases hq:lkA m ⟨w.heap.size,0,none⟩with
  |none=>rfl
  |some q=>
   have:=(hs.flt _ _ hl _ (hpool.row _ q.1 q.2 hq).2.1).1
   exact absurd this (Nat.lt_irrefl _)
 have hnb: ∀b z,lkA m b=some z->b.block≠(⟨w.heap.size,0,none⟩:Addr).block:=by
  intro b z hq e
  have:=(hs.flt _ _ hl _ (hpool.row _ z.1 z.2 hq).2.1).1
  rw[e]at this
  exact absurd this (Nat.lt_irrefl _)
 have out: ∀olds:List k0.ty,olds=aM m hdr.a->hdr.c<hdr.n+n->(Builtin.firstCells i.size hdr.n (.slice hdr.a hdr.n hdr.c)).run P w.drew= .ok (aH k0 olds).toArray w.drew->
   LOk P β Z s w a ⟨dst,.call ⟨.builtin .append, #[x,y], #[T,T]⟩,type,pos,after,guard⟩ k:=by
  intro olds ho hroom hold
  have hr:=hrun _ _ (fX (w:=w) (base:=hdr.a) (len:=hdr.n) (cap:=hdr.c) (olds:=aH k0 olds) hu hi hz (fun w=>hsrc.lenOf) (by rw[hisz];exact hsrc.first (fun _=>rfl)) hold hroom (by omega)
   (by rw[hib];exact growslice_fits (by omega) (by simpa using hb)) type)
  have hg:=grownCap_ge w (hdr.n+n) hdr.c E0
  have hgo:=h _ _ (App.fresh (m:=m) (x:=hdr) (ys:=ys) (sp:=grownCap w (hdr.n+n) hdr.c E0-(hdr.n+n)) hnew hnb)
  rw[hsrc.len,show hdr.n+n+(grownCap w (hdr.n+n) hdr.c E0-(hdr.n+n))=grownCap w (hdr.n+n) hdr.c E0 by omega]at hgo
  refine⟨_,_,.c (.h ⟨some ⟨w.heap.size,0,none⟩,hdr.n+n,grownCap w (hdr.n+n) hdr.c E0⟩),β,_,⟨s.fr,upd s.hp id (.pool E0 k0 ((⟨w.heap.size,0,none⟩,aM m hdr.a++ys,grownCap w (hdr.n+n) hdr.c E0-(hdr.n+n))::m)),s.nx⟩,hr,.inl rfl,fun _ _=>rfl,⟨rfl,rfl,rfl,by simp,fun b hb=>?_⟩,rfl,Nat.le_refl _,
   hs.grow (q:=fun b=>fp id b\/b=w.heap.size) hl (fun b hb _=>?_) (by simp) (fun b hb=>?_) ?_ trivial,trivial,hgo⟩
  ·exact aT (w:=w.drew) (hs.zlt b hb)
  ·exact aT (w:=w.drew) hb
  ·rcases hb with hb|rfl
   ·have:=(hs.flt _ _ hl b hb).1
    exact⟨.inl hb,by simp;omega⟩
   ·exact⟨.inr (Nat.le_refl _),by simp⟩
  ·refine hpool.cons hnb (fun b hb=>aT (w:=w.drew) (hs.flt _ _ hl b hb).1) (fun _ hb=> .inl hb) rfl (.inr rfl) ⟨[],(Builtin.zeroCells z.cells (grownCap w (hdr.n+n) hdr.c E0-(hdr.n+n))).toList,?_,rfl,Nat.le_of_eq (fT k0 hzc _).symm⟩
   have:=bA (w:=w.drew) (.cells (aH k0 olds++aH k0 ys++(Builtin.zeroCells z.cells (grownCap w (hdr.n+n) hdr.c E0-(hdr.n+n))).toList).toArray E0)
   refine this.trans ?_
   rw[<-bB,ho]
   rfl
 cases hha:hdr.a with
 |none=>
  unfold Hd at hd
  rw[hha]at hd
  simp only at hd
  by_cases hn:n=0
  ·subst hn
   have hys:ys=[]:=List.eq_nil_of_length_eq_zero hsrc.len
   subst hys
   have hr:=hrun (.slice none 0 0) w (by
    rw[hha,hd.1,hd.2]
    exact iT hu hi (fun w=>hsrc.lenOf) (by rw[hisz];exact hsrc.first (fun _=>rfl)) type)
   refine⟨_,w,.c (.h hdr),β,_,⟨s.fr,upd s.hp id (.pool E0 k0 m),s.nx⟩,hr,.inl (by simp[SV.den,SA.den,SC.den,hha,hd.1,hd.2]),fun _ _=>rfl,Ext.refl _ _,rfl,Nat.le_refl _,
    hs.grow (w':=w) (o':= .pool E0 k0 m) (q:=fp id) hl (fun _ _ _=>rfl) (Nat.le_refl _) (fun b hb=>⟨.inl hb,(hs.flt _ _ hl b hb).1⟩) hpool trivial,trivial,h _ _ (.stay rfl)⟩
  ·refine out [] (by rw[hha];rfl) (by omega) ?_
   rw[hha,hd.1]
   simp[Builtin.firstCells,aH]
 |some x'=>
  unfold Hd at hd
  rw[hha]at hd
  simp only at hd
  cases hla:lkA m x' with
  |none=>rw[hla]at hd;exact hd.elim
  |some yy=>
   rw[hla]at hd
   simp only at hd
   obtain⟨hsp,hfp,pre,post,hh,hpre,hpost⟩:=hpool.row x' yy.1 yy.2 hla
   have hx':(⟨x'.block,x'.off,none⟩:Addr)=x':=by obtain⟨b,o,sp⟩:=x';cases hsp;rfl
   have hrow:aM m hdr.a=yy.1:=by rw[hha];unfold aM;simp[hla]
   have hfl:=aP k0 yy.1
   have hysl:(aH k0 ys).length=n*k0.sz:=by rw[aP,hsrc.len]
   by_cases hroom:hdr.n+n<=hdr.c
   ·have hmul:hdr.n*k0.sz+n*k0.sz<=(aH k0 yy.1).length+post.length:=by
     refine Nat.le_trans ?_ (Nat.add_le_add_left hpost _)
     rw[hfl,<-Nat.add_mul,<-Nat.add_mul]
     exact Nat.mul_le_mul_right _ (by omega)
    have hr0:=qZ (w:=w) (g:=x'.block) (o:=x'.off) (len:=hdr.n) (cap:=hdr.c) (E0:=E0) (cur:=pre++aH k0 yy.1++post) hu hi (fun w=>hsrc.lenOf) (by rw[hisz];exact hsrc.first (fun _=>rfl)) hroom hh
     (by rw[hisz,hysl,List.length_append,List.length_append,hpre];omega) (uD k0 ys) type
    rw[hx']at hr0
    have hr:=hrun _ _ (by rw[hha];exact hr0)
    have e1:x'.off+hdr.n*i.size=pre.length+(aH k0 yy.1).length:=by rw[hisz,hpre,hfl,hd.1]
    have t1:(pre++aH k0 yy.1++post).take (x'.off+hdr.n*i.size)=pre++aH k0 yy.1:=by
     rw[e1,<-List.length_append,List.take_left]
    have t2:(pre++aH k0 yy.1++post).drop (x'.off+hdr.n*i.size+(aH k0 ys).length)=post.drop (n*k0.sz):=by
     rw[e1,<-List.length_append,<-List.drop_drop,List.drop_left,hysl]
    rw[t1,t2]at hr
    have hgo:=h _ _ (App.room (m:=m) (x:=hdr) (ys:=ys) (a:=x') (y:=yy) (sp:=hdr.c-(hdr.n+n)) hha hla (by rw[hsrc.len];omega))
    rw[hsrc.len]at hgo
    refine⟨_,_,.c (.h ⟨some x',hdr.n+n,hdr.c⟩),β,_,⟨s.fr,upd s.hp id (.pool E0 k0 (tA m x' (yy.1++ys,hdr.c-(hdr.n+n)))),s.nx⟩,hr,.inl rfl,fun _ _=>rfl,Ext.setRow _ (hs.flt _ _ hl _ hfp).2,rfl,Nat.le_refl _,
     hs.grow (q:=fp id) hl (fun b _ hb=>setRow_other w _ b _ (fun e=>hb (e▸hfp))) (by simp) (fun b hb=>⟨.inl hb,by simpa using (hs.flt _ _ hl b hb).1⟩) ?_ trivial,trivial,hgo⟩
    refine hpool.set hla (fun b hb _=>setRow_other w _ b _ hb) ⟨pre,post.drop (n*k0.sz),?_,hpre,?_⟩
    ·rw[setRow_heap w _ _ _ E0 _ hh,bB]
     simp[List.append_assoc]
    ·rw[List.length_drop]
     have h5:(hdr.c-(hdr.n+n))*k0.sz+n*k0.sz<=yy.2*k0.sz:=by
      rw[<-Nat.add_mul];exact Nat.mul_le_mul_right _ (by omega)
     show(hdr.c-(hdr.n+n))*k0.sz<=post.length-n*k0.sz
     omega
   ·refine out yy.1 hrow.symm (by omega) ?_
    rw[hha,hisz]
    exact run_firstCells_some w.drew k0.sz hdr.n x' hdr.n hdr.c (aH k0 yy.1) (by rw[hfl,hd.1]) (fun j u hj=>by
     rw[eR hsp]
     exact jY hh hpre j u hj)
theorem Nv {ek:EK} {fr:List (Nat×SV)} {l:List (Nat×Operand)} {id len cap:Nat} (h:Rm ek fr l=some (id,len,cap)):
  ∃x sz,l=[(0,x)]/\ev fr x=some (.a (.c (.sl id sz 0 len cap))):=by
 cases ek with
 |sli=>
  match l,h with
  | [(0,x)],h=>
    simp only[Rm]at h
    split at h
    ·rename_i id' sz len' cap' hx
     cases h
     exact⟨x,sz,rfl,hx⟩
    ·cases h
 |_=>cases h
theorem aBv (hty:cZ P ty) (hs:aR β Z fp s w) (hf:cQ β s N a) {k:S->SV->Prop} {dst:Option Nat} {T:TypeId} {len:Nat} {parts:Array (Nat×Operand)} {type:TypeId} {pos:String}
  {after:Array Edge} {guard:Option (Nat×Bool)} (h:mOp ty (.buildSlice T len parts) s k):LOk P β Z s w a ⟨dst,.buildSlice T len parts,type,pos,after,guard⟩ k:=by
 simp only[mOp,S.go_eq]at h
 split at h<;>try exact h.elim
 rename_i d hd
 split at h<;>try exact h.elim
 rename_i E bytes hsl
 split at h<;>try exact h.elim
 rename_i id ln cap hfz hlen
 rw[cH,decide_eq_true_eq]at hlen
 subst hlen
 split at h<;>try exact h.elim
 rename_i E0 k0 xs sp hl
 split at h<;>try exact h.elim
 rename_i pid hpf
 split at h<;>try exact h.elim
 rename_i E1 k1 m hpl
 split at h<;>try exact h.elim
 rename_i xs' hcast hE0
 rw[cH,decide_eq_true_eq]at hE0
 subst hE0
 obtain⟨e,he⟩:=EK.cast_spec hcast
 subst e
 change xs'=xs at he
 subst he
 obtain⟨⟨hln,hcap⟩,h⟩:=h
 simp only[mF,aX]at h
 obtain⟨x,sz,hpa,hx⟩:=Nv hfz
 obtain⟨hex,_⟩:=aI hf hx
 obtain⟨hu,hE,i,z,hi,hz,hisz,_,hzc⟩:=(hty T d hd).sl _ _ _ hsl
 have hpool:gF (fp pid) w E0 k0 m:=hs.obj _ _ hpl
 have hne:id≠pid:=by intro e;rw[e,hpl]at hl;cases hl
 obtain⟨m',y,hy,hfr,hpk⟩: ∃m' y,SC.den β (.h y)= .slice (β id) ln cap/\Frz m xs' sp ln cap m' y/\gF (fun b=>fp pid b\/fp id b) w E0 k0 m':=by
  have hok:=hs.obj _ _ hl
  cases hb:β id with
  |none=>
   rw[hb]at hok
   obtain⟨rfl,rfl⟩:=hok
   refine⟨m,⟨none,ln,cap⟩,rfl,.nil rfl,⟨fun b xs sp hb=>?_,hpool.one⟩⟩
   obtain⟨t1,t2,t3⟩:=hpool.row b xs sp hb
   exact⟨t1,.inl t2,t3⟩
  |some x'=>
   rw[hb]at hok
   obtain⟨hsp,hfp,pre,post,hh,hpre,hpost⟩:=hok
   have hnb: ∀b z,lkA m b=some z->b.block≠x'.block:=by
    intro b z hq e
    have:=(hpool.row _ z.1 z.2 hq).2.1
    rw[e]at this
    exact hs.sep pid id _ _ hpl hl (fun e=>hne e.symm) _ this hfp
   refine⟨(x',xs',sp)::m,⟨some x',ln,cap⟩,rfl,.own ?_ hnb,?_⟩
   ·cases hq:lkA m x' with
    |none=>rfl
    |some q=>exact absurd rfl (hnb _ _ hq)
   ·exact hpool.cons (y:=(xs',sp)) hnb (fun _ _=>rfl) (fun _ hb=> .inl hb) hsp (.inr hfp) ⟨pre,post,hh,hpre,hpost⟩
 have hgo:=h m' y hfr
 have hs1:=hs.merge (p':= .pool E0 k0 m') hl hpl hne hpk trivial
 have hex':a.eval x= .slice (β id) ln cap:=by
  rw[hex]
  have hid: ∀o:Option Addr,o.map (fun x=>x.add (0*sz))=o:=fun o=>by cases o<;>simp[Addr.add]
  simp only[SV.den,SA.den,SC.den,hid]
 have hzv:z.cells.size=1:=by rw[<-Array.length_toList,hzc,EK.cells_length];rfl
 have hrun:(execOp a.eval ⟨dst,.buildSlice T 1 parts,type,pos,after,guard⟩).run P w= .ok (.value (.slice (some ⟨w.heap.size,0,none⟩) 1 1)) (w.alloc (.cells (aH .sli [y]++[]).toArray E)):=by
  have hE': ∀w,(sizeOf E).run P w= .ok 1 w:=hE
  have hm:(parts.map fun(i,x)=>(i,a.eval x)).toList=[(0,.slice (β id) ln cap)]:=by
   rw[Array.toList_map,hpa];simp[hex']
  have hfl:aH .sli [y]=[.slice (β id) ln cap]:=by
   have:EK.sli.cells y=[SC.den β (.h y)]:=rfl
   simp[aH,this,hy]
  have hf2: ∀A:Array Value,A.size=1->Instr.fill (fun i=>some (i*1,1)) A [(0,.slice (β id) ln cap)]=some #[.slice (β id) ln cap]:=by
   intro A hA
   obtain⟨l⟩:=A
   match l,hA with
   | [q],_=>rfl
  simp only[execOp,Instr.buildSlice,Sem.run_bind,run_underlying hu,Result.andThen_ok,hE']
  rw[if_neg (by omega)]
  simp only[Sem.run_bind,zeroValue,typeInfo,hi,hz,Sem.run_pure,run_program,Result.andThen_ok,if_neg (show¬(1*1=0) by omega),hm]
  rw[hf2 _ (by simp)]
  simp[newRow,hfl]
 obtain⟨r,w',v',β',fp',s',R⟩:=Dr (P:=P) (k:=k) (a:=a) hs1 (E:=E) (ek:= .sli) (xs:= [y]) (sp:=0) (post:= []) hrun (fun b hb=>aT hb) (by simp) rfl rfl rfl (bA _) (by simp) hgo
 exact⟨r,w',v',β',fp',s',R.run,R.val,R.env,R.ext,R.fr,R.nx,R.sat,R.lt,R.go⟩
theorem Uo (hs:aR β Z fp s w) {k:S->SV->Prop} {dst:Option Nat} {T:TypeId} {r:Option Operand} {type:TypeId} {pos:String}
  {after:Array Edge} {guard:Option (Nat×Bool)} (h:mOp ty (.makeMap T r) s k):LOk P β Z s w a ⟨dst,.makeMap T r,type,pos,after,guard⟩ k:=by
 cases r with
 |some r=>exact h.elim
 |none=>
 simp only[mOp,S.go_eq]at h
 split at h<;>try exact h.elim
 rename_i d hd
 split at h<;>try exact h.elim
 rename_i kt kk vt vk hmp
 have hrun:(execOp a.eval ⟨dst,.makeMap T none,type,pos,after,guard⟩).run P w= .ok (.value (.map (some w.heap.size))) (w.alloc (.map #[] 0)):=by
  simp[execOp,Instr.makeMap,newObj,Sem.run]
 refine⟨_,_,.c (.mp s.nx),β.add s.nx (some ⟨w.heap.size,0,none⟩),_,⟨s.fr,(s.nx,.map kk vk [] 0)::s.hp,s.nx+1⟩,hrun,.inl ?_,Env.add_lt,Ext.alloc _ hs.zlt,rfl,Nat.le_succ _,hs.add (o:= .map kk vk [] 0) (q:=fun b=>b=w.heap.size) ?_ ?_ ?_ ?_ trivial,?_,h⟩
 ·simp[SV.den,SA.den,SC.den,Env.add_at]
 ·exact fun b hb=>aT hb
 ·simp
 ·intro b hb;subst hb;simp
 ·exact⟨w.heap.size,rfl,rfl,by rw[bA];rfl⟩
 ·show s.nx<s.nx+1;omega
theorem aBu (hty:cZ P ty) (hs:aR β Z fp s w) (hf:cQ β s N a) {k:S->SV->Prop} {dst:Option Nat} {T:TypeId} {x:Operand} {type:TypeId} {pos:String}
  {after:Array Edge} {guard:Option (Nat×Bool)} (h:mOp ty (.range T x) s k):LOk P β Z s w a ⟨dst,.range T x,type,pos,after,guard⟩ k:=by
 simp only[mOp,S.go_eq]at h
 split at h<;>try exact h.elim
 rename_i d id hd hx
 split at h<;>try exact h.elim
 rename_i q kk vk es clk hmp hl
 obtain⟨kt,kk',vt,vk'⟩:=q
 obtain⟨hex,hlt⟩:=aI hf hx
 obtain⟨b,hb,_,hh⟩:=rV hs hl
 have hm:=(hty _ _ hd).mp _ _ _ _ hmp
 have hmap:a.eval x= .map (some b):=by rw[hex];simp[SV.den,SA.den,SC.den,hb]
 have hrun:(execOp a.eval ⟨dst,.range T x,type,pos,after,guard⟩).run P w= .ok (.value (.pointer (some ⟨w.heap.size,0,none⟩))) (w.alloc (.mapIter (some b) clk #[] clk)):=by
  simp[execOp,hmap,Instr.range,run_underlying hm.ty,iD hh (by intro _ _ _ e;cases e),newObj,Sem.run]
 refine⟨_,_,.c (.ptr s.nx 0),β.add s.nx (some ⟨w.heap.size,0,none⟩),_,⟨s.fr,(s.nx,.iter id clk [] clk 0)::s.hp,s.nx+1⟩,hrun,.inl ?_,Env.add_lt,Ext.alloc _ hs.zlt,rfl,Nat.le_succ _,hs.add (o:= .iter id clk [] clk 0) (q:=fun b=>b=w.heap.size) ?_ ?_ ?_ ?_ hlt,?_,h⟩
 ·simp[SV.den,SA.den,SC.den,Env.add_at,Addr.add_lit]
 ·exact fun b hb=>aT hb
 ·simp
 ·intro b hb;subst hb;simp
 ·exact⟨w.heap.size,b,rfl,rfl,(Env.add_lt id hlt).trans hb,by rw[bA]⟩
 ·show s.nx<s.nx+1;omega
theorem aCQ (hs:aR β Z fp s w) (hf:cQ β s N a) {k:S->SV->Prop} {dst:Option Nat} {x:Operand} {str:Bool} {type:TypeId} {pos:String}
  {after:Array Edge} {guard:Option (Nat×Bool)} (h:mOp ty (.next x str) s k):LOk P β Z s w a ⟨dst,.next x str,type,pos,after,guard⟩ k:=by
 cases str with
 |true=>exact h.elim
 |false=>
 simp only[mOp,S.go_eq]at h
 split at h<;>try exact h.elim
 rename_i it hx
 split at h<;>try exact h.elim
 rename_i mid since seen last cur hl
 split at h<;>try exact h.elim
 rename_i kk vk es clk hl2
 obtain⟨⟨hbo,e1,e2⟩,h1,h2⟩:=h
 rw[e2]at hl
 rw[e1]at hl h2
 clear e1 e2
 obtain⟨hex,_⟩:=aI hf hx
 obtain⟨b,r,hb,hfb,hr,hh⟩: ∃b r,β it=some ⟨b,0,none⟩/\fp it b/\β mid=some ⟨r,0,none⟩/\w.heap[b]?=some (.mapIter (some r) clk seen.toArray clk):=hs.obj it _ hl
 obtain⟨r',hr',_,hh2⟩:=rV hs hl2
 rw[hr]at hr'
 cases hr'
 have hp:a.eval x= .pointer (some ⟨b,0,none⟩):=by rw[hex];simp[SV.den,SA.den,SC.den,hb,Addr.add_lit]
 have hold: ∀x∈(es.map (ent kk vk)).toArray.toList,x.born<clk:=by
  intro x hx
  simp only[List.mem_map]at hx
  obtain⟨e,he,rfl⟩:=hx
  exact hbo.2 e he
 rcases run_next_at (P:=P) w type b r clk clk seen.toArray _ clk hh hh2 hold (Nat.le_refl _)with⟨h0,hrun⟩|⟨e,he,w1,hw1,hrun⟩
 ·have hall: ∀e∈es,e.2.2∈seen:=by
   intro e he
   have h0':leftOf (es.map (ent kk vk)).toArray seen.toArray= #[]:=Array.eq_empty_of_size_eq_zero h0
   unfold leftOf at h0'
   rw[Array.filter_eq_empty_iff]at h0'
   have:=h0' (ent kk vk e) (by rw[List.mem_toArray];exact List.mem_map.2 ⟨e,he,rfl⟩)
   simpa[ent]using this
  refine⟨.value (.tuple #[.bool false]),w,.tup [.c (.b false)],β,fp,s,?_,.inl rfl,fun _ _=>rfl,Ext.refl _ _,rfl,Nat.le_refl _,hs,?_,h1 hall⟩
  ·simp only[execOp,hp,Sem.run_bind,hrun,Result.andThen_ok,Sem.run_pure]
  ·intro c hc;simp only[List.mem_cons,List.not_mem_nil,or_false]at hc;subst hc;trivial
 ·obtain⟨i,hi,hie,hns⟩: ∃i,∃h:i<es.length,ent kk vk es[i]=e/\es[i].2.2∉seen:=by
   unfold leftOf at he
   simp only[Array.toList_filter,List.mem_filter,List.mem_map]at he
   obtain⟨⟨e',he',rfl⟩,hn⟩:=he
   obtain⟨i,hi,rfl⟩:=List.getElem_of_mem he'
   exact⟨i,hi,rfl,by simpa[ent]using hn⟩
  have h:=h2 i hi hns
  rw[aX,kQ,kQ]at h
  have hw1h:w1.heap=w.heap:=by rcases hw1 with rfl|rfl<;>rfl
  have hbz: ¬Z b:=(hs.flt _ _ hl b hfb).2
  have hother: ∀c,c≠b->(setBlock w1 b (.mapIter (some r) clk (seen.toArray.push e.born) clk)).heap[c]?=w.heap[c]?:=by
   intro c hc
   show(w1.heap.setIfInBounds b _)[c]?=_
   rw[hw1h,Array.getElem?_setIfInBounds,if_neg (fun e=>hc e.symm)]
  have hblt:b<w.heap.size:=(hs.flt _ _ hl b hfb).1
  have hsz:(setBlock w1 b (.mapIter (some r) clk (seen.toArray.push e.born) clk)).heap.size=w.heap.size:=by
   show(w1.heap.setIfInBounds b _).size=_
   rw[hw1h];simp
  refine⟨_,_,.tup [.c (.b true),kk.symA es[i].1,vk.symA es[i].2.1],β,fp,⟨s.fr,upd s.hp it (.iter mid clk (seen++[es[i].2.2]) clk i),s.nx⟩,?_,.inl rfl,fun _ _=>rfl,⟨?_,?_,?_,Nat.le_of_eq hsz.symm,fun c hc=>hother c (fun e=>hbz (e▸hc))⟩,rfl,Nat.le_refl _,
   hs.put hl (fun c hc=>hother c (fun e=>hc (e▸hfb))) hsz ?_ ((hs.lto _ _ hl).2),?_,h⟩
  ·simp only[execOp,hp,Sem.run_bind,hrun,Result.andThen_ok,Sem.run_pure]
   rw[<-hie]
   simp[SV.den,EK.symA_den,ent];rfl
  ·rcases hw1 with rfl|rfl<;>rfl
  ·rcases hw1 with rfl|rfl<;>rfl
  ·rcases hw1 with rfl|rfl<;>rfl
  ·refine⟨b,r,hb,hfb,hr,?_⟩
   show(w1.heap.setIfInBounds b _)[b]?=_
   rw[hw1h,Array.getElem?_setIfInBounds,if_pos rfl,if_pos hblt,<-hie]
   simp[ent]
  ·intro c hc
   simp only[List.mem_cons,List.not_mem_nil,or_false]at hc
   rcases hc with rfl|rfl|rfl
   ·trivial
   ·exact EK.symA_lt _ _ _
   ·exact EK.symA_lt _ _ _
theorem Ny {kk vk:EK} {x:kk.ty}: ∀ {es:List (kk.ty×vk.ty×Nat)} {n:Nat},jH kk vk x es n=none->(lkM es x).isSome=false:=by
 intro es n h
 have:=Af kk vk x es n
 rw[h]at this
 cases hq:lkM es x with
 |none=>rfl
 |some q=>rw[hq]at this;cases this
theorem Ae {kk vk:EK} {x:kk.ty} (nv:vk.ty): ∀ {es:List (kk.ty×vk.ty×Nat)} {n i:Nat} {v:Value},jH kk vk x es n=some (i,v)->
  ∃j,i=n+j/\(es.map (ent kk vk)).modify j (fun e=> {e with key:=kk.val x,val:=vk.val nv})=(nS es x nv).map (ent kk vk)/\((es.map (ent kk vk))[j]?).map (·.key)=some (kk.val x)/\(lkM es x).isSome=true
 | [],n,i,v,h=>by cases h
 |(y,w,c)::es,n,i,v,h=>by
  simp only[jH]at h
  by_cases e:y=x
  ·subst e
   rw[if_pos rfl]at h
   cases h
   exact⟨0,rfl,by simp[nS,ent],by simp[ent],by simp[lkM]⟩
  ·rw[if_neg e]at h
   obtain⟨j,h1,h2,h3,h4⟩:=Ae nv h
   refine⟨j+1,by omega,?_,by simpa using h3,by simp[lkM,e,h4]⟩
   simp only[nS,if_neg e,List.map_cons,List.modify_succ_cons,h2]
theorem qY {T kt vt:Nat} {kk vk:EK} (hm:Lx P T kt kk vt vk) {r clk:Nat} {es:List (kk.ty×vk.ty×Nat)} (hh:w.heap[r]?=some (.map (es.map (ent kk vk)).toArray clk)) (x:kk.ty) (nv:vk.ty):
  (Instr.mapUpdate T (.map (some r)) (kk.val x) (vk.val nv)).run P w= .ok () {w with heap:=w.heap.setIfInBounds r (.map ((bL es clk x nv).1.map (ent kk vk)).toArray (bL es clk x nv).2)}:=by
 unfold Instr.mapUpdate
 have hso: ∀o':Obj,(setObj r o').run P w= .ok () {w with heap:=w.heap.setIfInBounds r o'}:=by
  intro o';simp[setObj,Sem.run,hh]
 simp only[Sem.run_bind,run_underlying hm.ty,Result.andThen_ok,iD hh (by intro _ _ _ e;cases e),hm.ck,hm.fk]
 cases hfe:jH kk vk x es 0 with
 |none=>
  have h1:=Ny hfe
  simp only[hso]
  unfold bL
  rw[if_neg (by rw[h1];simp)]
  simp[ent]
 |some p=>
  obtain⟨i,v⟩:=p
  obtain⟨j,h0,h2,h3,h4⟩:=Ae nv hfe
  have e0:i=j:=by omega
  subst e0
  have hk:(((es.map (ent kk vk)).toArray[i]?).map (·.key)).getD (kk.val x)=kk.val x:=by
   rw[List.getElem?_toArray,h3];rfl
  simp only[hk,Instr.keyThatStays,hm.sb,if_true,Sem.run_bind,Sem.run_pure,Result.andThen_ok,hso]
  unfold bL
  rw[if_pos h4]
  simp only
  rw[<-h2]
  simp
theorem aCk (hty:cZ P ty) (hs:aR β Z fp s w) (hf:cQ β s N a) {k:S->SV->Prop} {o:Oper} {T:TypeId} {x ix v:Operand}
  (hop: ∀u w',(Instr.mapUpdate T (a.eval x) (a.eval ix) (a.eval v)).run P w= .ok u w'->(execOp a.eval o).run P w= .ok .skip w')
  (h:aBs ty T x ix v s.fr s.hp s.nx k):LOk P β Z s w a o k:=by
 unfold aBs at h
 split at h<;>try exact h.elim
 ·rename_i d id kv bid hd hx hi hv
  split at h<;>try exact h.elim
  rename_i kt kk vt vk kk0 es clk cs hmp hl hcs
  split at h<;>try exact h.elim
  rename_i key hk hb1 hb2 hag
  have e1:=EK.beq_eq hb1
  have e2:=EK.beq_eq hb2
  subst e1 e2
  split at h<;>try exact h.elim
  rename_i T2 cells hbl
  split at h<;>try exact h.elim
  rename_i pid hpf
  split at h<;>try exact h.elim
  rename_i E1 k1 m hpl
  split at h<;>try exact h.elim
  rename_i e he hE
  rw[cH,decide_eq_true_eq]at hE
  subst hE
  simp only[mF,aX]at h
  obtain⟨hex,_⟩:=aI hf hx
  obtain⟨hei,_⟩:=aI hf hi
  obtain⟨hev,_⟩:=aI hf hv
  obtain⟨b,hb,hfb,hh⟩:=rV hs hl
  have hm:=(hty T d hd).mp _ _ _ _ hmp
  have hkv:=xV (β:=β) hcs hk hag
  obtain⟨c,hc,hfc,hch⟩:=wF hs hbl
  have hpool:gF (fp pid) w T2 k1 m:=hs.obj _ _ hpl
  have hne:bid≠pid:=by intro e;rw[e,hpl]at hbl;cases hbl
  have hne2:id≠pid:=by intro e;rw[e,hpl]at hl;cases hl
  have hne3:bid≠id:=by intro e;rw[e,hl]at hbl;cases hbl
  have hnb: ∀b z,lkA m b=some z->b.block≠(⟨c,0,none⟩:Addr).block:=by
   intro b z hq e
   have:=(hpool.row _ z.1 z.2 hq).2.1
   rw[e]at this
   exact hs.sep pid bid _ _ hpl hbl (fun e=>hne e.symm) _ this hfc
  have hnew:lkA m ⟨c,0,none⟩=none:=by
   cases hq:lkA m ⟨c,0,none⟩with
   |none=>rfl
   |some q=>exact absurd rfl (hnb _ _ hq)
  have hgo:=h ⟨c,0,none⟩ hnew hnb
  have hcells:cells.map (SC.den β)=aH k1 [e]:=by rw[dI he];simp[aH]
  have hs1:=hs.merge (p':= .pool T2 k1 ((⟨c,0,none⟩,[e],0)::m)) hbl hpl hne (hpool.cons (y:=([e],0)) hnb (fun _ _=>rfl) (fun _ hb=> .inl hb) rfl (.inr hfc) ⟨[],[],by rw[hch,hcells];simp,rfl,by simp⟩) trivial
  have hl1:aE (upd (mY s.hp bid) pid (.pool T2 k1 ((⟨c,0,none⟩,[e],0)::m))) id=some (.map kk0 .adr es clk):=by
   rw[cJ,if_neg (fun e=>hne2 e.symm),jV,if_neg hne3,hl]
  have hmap:a.eval x= .map (some b):=by rw[hex];simp[SV.den,SA.den,SC.den,hb]
  have hval:a.eval v=EK.adr.val (some ⟨c,0,none⟩):=by
   rw[hev];simp[SV.den,SA.den,SC.den,hc,Addr.add_lit];rfl
  have hrun:=hop () _ (by rw[hmap,hei,hkv,hval];exact qY hm hh key (some ⟨c,0,none⟩))
  have hbz: ¬Z b:=(hs.flt _ _ hl b hfb).2
  have hblt:b<w.heap.size:=(hs.flt _ _ hl b hfb).1
  have hother: ∀(o:Obj) (q:Nat),q≠b->(w.heap.setIfInBounds b o)[q]?=w.heap[q]?:=fun o q hq=>by rw[Array.getElem?_setIfInBounds,if_neg (fun e=>hq e.symm)]
  refine⟨_,_,.u,β,_,⟨s.fr,upd (upd (mY s.hp bid) pid (.pool T2 k1 ((⟨c,0,none⟩,[e],0)::m))) id (.map kk0 .adr (bL es clk key (some ⟨c,0,none⟩)).1 (bL es clk key (some ⟨c,0,none⟩)).2),s.nx⟩,hrun,.inr ⟨rfl,rfl⟩,fun _ _=>rfl,
   ⟨rfl,rfl,rfl,by simp,fun q hq=>hother _ q (fun e=>hbz (e▸hq))⟩,rfl,Nat.le_refl _,hs1.put hl1 (fun q hq=>hother _ q (fun e=>hq ?_)) (by simp) ?_ trivial,aCe _,hgo⟩
  ·simp only[if_neg hne2];rw[e];exact hfb
  ·refine⟨b,hb,by simp only[if_neg hne2];exact hfb,?_⟩
   rw[Array.getElem?_setIfInBounds,if_pos rfl,if_pos hblt]
 ·rename_i d id kv vv hnot hd hx hi hv
  split at h<;>try exact h.elim
  rename_i kt kk vt vk kk0 vk0 es clk cs vs hmp hl hcs hvs
  split at h<;>try exact h.elim
  rename_i key hk hb1 hb2 hag
  have e1:=EK.beq_eq hb1
  have e2:=EK.beq_eq hb2
  subst e1 e2
  split at h<;>try exact h.elim
  rename_i val hva hag2
  simp only[aX]at h
  obtain⟨hex,_⟩:=aI hf hx
  obtain⟨hei,_⟩:=aI hf hi
  obtain⟨hev,_⟩:=aI hf hv
  obtain⟨b,hb,hfb,hh⟩:=rV hs hl
  have hm:=(hty T d hd).mp _ _ _ _ hmp
  have hkv:=xV (β:=β) hcs hk hag
  have hvv:=xV (β:=β) hvs hva hag2
  have hmap:a.eval x= .map (some b):=by rw[hex];simp[SV.den,SA.den,SC.den,hb]
  have hrun:=hop () _ (by rw[hmap,hei,hkv,hev,hvv];exact qY hm hh key val)
  have hbz: ¬Z b:=(hs.flt _ _ hl b hfb).2
  have hblt:b<w.heap.size:=(hs.flt _ _ hl b hfb).1
  have hother: ∀(o:Obj) (q:Nat),q≠b->(w.heap.setIfInBounds b o)[q]?=w.heap[q]?:=fun o q hq=>by rw[Array.getElem?_setIfInBounds,if_neg (fun e=>hq e.symm)]
  refine⟨_,_,.u,β,_,⟨s.fr,upd s.hp id (.map kk0 vk0 (bL es clk key val).1 (bL es clk key val).2),s.nx⟩,hrun,.inr ⟨rfl,rfl⟩,fun _ _=>rfl,
   ⟨rfl,rfl,rfl,by simp,fun q hq=>hother _ q (fun e=>hbz (e▸hq))⟩,rfl,Nat.le_refl _,hs.put hl (fun q hq=>hother _ q (fun e=>hq (e▸hfb))) (by simp) ?_ trivial,aCe _,h⟩
  refine⟨b,hb,hfb,?_⟩
  rw[Array.getElem?_setIfInBounds,if_pos rfl,if_pos hblt]
theorem Up (hty:cZ P ty) (hs:aR β Z fp s w) (hf:cQ β s N a) {k:S->SV->Prop} {o:Oper} (h:mOp ty o.op s k):LOk P β Z s w a o k:=by
 obtain⟨dst,op,type,pos,after,guard⟩:=o
 have hmu: ∀(T:Nat) (x ix v:Operand) (u:Unit) (w':World),(Instr.mapUpdate T (a.eval x) (a.eval ix) (a.eval v)).run P w= .ok u w'->
   (execOp a.eval ⟨dst,.mapUpdate T x ix v,type,pos,after,guard⟩).run P w= .ok .skip w'/\(execOp a.eval ⟨dst,.insert T x ix v,type,pos,after,guard⟩).run P w= .ok .skip w':=by
  intro T x ix v u w' hr
  exact⟨by simp only[execOp,Sem.run_bind,hr,Result.andThen_ok,Sem.run_pure],by simp only[execOp,Sem.run_bind,hr,Result.andThen_ok,Sem.run_pure]⟩
 cases op<;>try exact h.elim
 case store T x y=>exact aBt hty hs hf h
 case buildSlice T n ps=>exact aBv hty hs hf h
 case makeMap T r=>exact Uo hs h
 case range T x=>exact aBu hty hs hf h
 case next x b=>exact aCQ hs hf h
 case insert T x ix v=>
  simp only[mOp,S.go_eq]at h
  exact aCk hty hs hf (fun u w' hr=>(hmu T x ix v u w' hr).2) h
 case mapUpdate T x ix v=>
  simp only[mOp,S.go_eq]at h
  exact aCk hty hs hf (fun u w' hr=>(hmu T x ix v u w' hr).1) h
 case call c=>
  obtain⟨callee,args,argTypes⟩:=c
  cases callee<;>try exact h.elim
  rename_i bi
  cases bi<;>try exact h.elim
  exact Zc hty hs hf h
end
end Go.Fw
namespace Go.Fw
open Go
section
variable {P:Program} {ty:List (Nat×STy)} {β:Env} {Z:Nat->Prop} {fp:Nat->Nat->Prop} {s:S} {w:World} {N:NT} {a:Act}
theorem Ur (hty:cZ P ty) (hs:aR β Z fp s w) (hf:cQ β s N a) {k:S->SV->Prop} {o:Oper} (h:lOp ty o.op s k):LOk P β Z s w a o k:=by
 obtain⟨dst,op,type,pos,after,guard⟩:=o
 cases op<;>try exact h.elim
 case box T x=>exact aDH hs hf h
 case alloc T=>exact aBB hty hs h
 case buildSlice T n ps=>exact Gl hty hs hf h
 case makeSlice T l c=>exact Jm hty hs hf h
 case store T x y=>exact aBA hty hs hf h
 case call c=>
  obtain⟨callee,args,argTypes⟩:=c
  cases callee<;>try exact h.elim
  rename_i bi
  cases bi<;>try exact h.elim
  case append=>exact Zn hty hs hf h
  case copy=>exact aCR hty hs hf h
end
structure Nxt (β:Env) (Z:Nat->Prop) (s:S) (w:World) (v:SV) (w':World) (β':Env) (Z':Nat->Prop) (fp':Nat->Nat->Prop) (s':S):Prop where
 env: ∀id,id<s.nx->β' id=β id
 ext:Ext Z w w'
 zz: ∀b,Z b->Z' b
 fr:s'.fr=s.fr
 nx:s.nx<=s'.nx
 sat:aR β' Z' fp' s' w'
 lt:v.lt s'.nx
def aDV (P:Program) (N:Nat) (o:Oper) (s:S) (k:S->SV->Prop):Prop:=
 ∀β Z fp w a df,aR β Z fp s w->cQ β s (N,df) a-> ∀(next:Act->World->Prop) (Q:Exit->Act->World->Prop),
  (∀v w' β' Z' fp' s',Nxt β Z s w v w' β' Z' fp' s'->k s' v->next (a.put o.dst (v.den β')) w')->o.wp P a w next Q
@[irreducible] def eH (P:Program) (f:Nat) (args:List SV) (ex:List Value) (s:S) (k:S->SV->Prop):Prop:=
 (∀args w,(callFunc f args).run P w= .ok (.enter f args) w)/\
 ∀β Z fp w,aR β Z fp s w->Calls P f (args.map (SV.den β)++ex).toArray w fun e w'=> ∃v β' Z' fp' s',e= .returned (v.den β')/\Nxt β Z s w v w' β' Z' fp' s'/\k s' v
@[irreducible] def XOp (P:Program) (N:Nat) (o:Oper) (s:S) (k:S->SV->Prop):Prop:=aDV P N o s k
def Zo:Op->Nat
 | .box _ _| .alloc _| .buildSlice _ _ _| .makeSlice _ _ _| .store _ _ _| .makeMap _ _| .insert _ _ _ _| .mapUpdate _ _ _ _| .range _ _| .next _ _=>1
 | .call {callee:= .builtin .append,.. }=>1
 | .call {callee:= .builtin .copy,.. }=>1
 | .call {callee:= .builtin .len,.. }=>0
 | .call {callee:= .value _,.. }=>2
 | .move _| .assign _| .pick _ _ _| .fieldAddr _ _ _| .load _ _| .nilCheck _| .binOp .. | .unOp .. | .convert .. | .indexAddr .. | .slice .. | .extract .. | .build .. | .makeFunc .. | .lookup .. | .entry _| .index .. =>0
 |_=>3
def evL (fr:List (Nat×SV)):List Operand->(List SV->Prop)->Prop
 | [],k=>k []
 |x::l,k=>match ev fr x with
  |some v=>evL fr l fun vs=>k (v::vs)
  |none=>False
def qR:List (Nat×Nat)->List SV
 | []=> []
 |(id,off)::l=> .c (.ptr id off)::qR l
def aAt (P:Program) (op:Op) (s:S) (k:S->SV->Prop):Prop:=
 match op with
 | .call {callee:= .value f,args,.. }=>match ev s.fr f with
   |some (.a (.c (.fn g caps)))=>evL s.fr args.toList fun vs=>eH P g (jQ vs (qR caps)) [] s k
   |some (.a (.c (.fnv g caps)))=>evL s.fr args.toList fun vs=>eH P g vs caps s k
   |some (.a (.c (.fm g id off)))=>evL s.fr args.toList fun vs=>eH P g (.c (.ptr id off)::vs) [] s k
   |_=>False
 |_=>False
def opK (P:Program) (ty:List (Nat×STy)) (N:Nat) (o:Oper) (s:S) (k:S->SV->Prop):Prop:=
 match Zo o.op with
 |0=>qOp ty o.op s (k s)
 |1=>match aDB ty s.fr o.op with
  |true=>mOp ty o.op s k
  |false=>lOp ty o.op s k
 |2=>aAt P o.op s k
 |_=>XOp P N o s k
theorem qI {β:Env} {s:S} {N:NT} {a:Act} (hf:cQ β s N a): ∀(l:List Operand) (k:List SV->Prop),evL s.fr l k-> ∃vs:List SV,l.map a.eval=vs.map (SV.den β)/\k vs
 | [],k,h=>⟨[],rfl,h⟩
 |x::l,k,h=>by
  simp only[evL]at h
  split at h<;>try exact h.elim
  rename_i v hx
  obtain⟨he,_⟩:=aI hf hx
  obtain⟨vs,hvs,hk⟩:=qI hf l _ h
  exact⟨v::vs,by simp[he,hvs],hk⟩
theorem Iw (β:Env) (l:List (Nat×Nat)):(qR l).map (SV.den β)=l.map fun p=>Value.pointer ((β p.1).map (·.add p.2)):=by
 induction l with
 |nil=>rfl
 |cons p l ih=>obtain⟨id,off⟩:=p;simp[qR,ih,SV.den,SA.den,SC.den]
theorem Db {P:Program} {ty:List (Nat×STy)} (hty:cZ P ty) {N:Nat} {o:Oper} {s:S} {k:S->SV->Prop} (h:opK P ty N o s k):aDV P N o s k:=by
 intro β Z fp w a df hs hf next Q hn
 unfold opK at h
 split at h
 ·obtain⟨v,hr,hl,hk⟩:=vE hty hs hf h
  unfold Oper.wp
  rw[hr]
  exact hn v w β Z fp s ⟨fun _ _=>rfl,Ext.refl _ _,fun _ h=>h,rfl,Nat.le_refl _,hs,hl⟩ hk
 ·have hlk:LOk P β Z s w a o k:=by
   split at h
   ·exact Up hty hs hf h
   ·exact Ur hty hs hf h
  obtain⟨r,w',v,β',fp',s',R⟩:=hlk
  unfold Oper.wp
  rw[R.run]
  have:=hn v w' β' Z fp' s' ⟨R.env,R.ext,fun _ h=>h,R.fr,R.nx,R.sat,R.lt⟩ R.go
  rcases R.val with rfl|⟨rfl,rfl⟩
  ·exact this
  ·exact this
 ·unfold aAt at h
  split at h<;>try exact h.elim
  rename_i op f args argTypes hop
  obtain⟨dst,op',type,pos,after,guard⟩:=o
  simp only at hop
  subst hop
  split at h<;>try exact h.elim
  ·rename_i g caps hx
   obtain⟨he,_⟩:=aI hf hx
   obtain⟨vs,hvs,hk⟩:=qI hf _ _ h
   unfold eH at hk
   obtain⟨hcf,hc⟩:=hk
   have hc:=hc β Z fp w hs
   unfold Oper.wp
   have hr:(execOp a.eval ⟨dst,.call ⟨.value f,args,argTypes⟩,type,pos,after,guard⟩).run P w= .ok (.enter g ((jQ vs (qR caps)).map (SV.den β)++[]).toArray) w:=by
    have e1:(args.map a.eval)++(caps.map fun p=>Value.pointer ((β p.1).map (·.add p.2))).toArray=((jQ vs (qR caps)).map (SV.den β)++[]).toArray:=by
     apply Array.ext'
     simp[nD,Iw,hvs]
    simp only[execOp,resolve,he,SV.den,SA.den,SC.den,Deferred.ofValue,pure_bind,invoke,Array.empty_append]
    rw[hcf,e1]
   rw[hr]
   refine hc.mono ?_
   rintro e w' ⟨v,β',Z',fp',s',rfl,hnx,hk⟩
   exact hn v w' β' Z' fp' s' hnx hk
  ·rename_i g caps hx
   obtain⟨he,_⟩:=aI hf hx
   obtain⟨vs,hvs,hk⟩:=qI hf _ _ h
   unfold eH at hk
   obtain⟨hcf,hc⟩:=hk
   have hc:=hc β Z fp w hs
   unfold Oper.wp
   have hr:(execOp a.eval ⟨dst,.call ⟨.value f,args,argTypes⟩,type,pos,after,guard⟩).run P w= .ok (.enter g (vs.map (SV.den β)++caps).toArray) w:=by
    have e1:(args.map a.eval)++caps.toArray=(vs.map (SV.den β)++caps).toArray:=by
     apply Array.ext'
     simp[hvs]
    simp only[execOp,resolve,he,SV.den,SA.den,SC.den,Deferred.ofValue,pure_bind,invoke,Array.empty_append]
    rw[hcf,e1]
   rw[hr]
   refine hc.mono ?_
   rintro e w' ⟨v,β',Z',fp',s',rfl,hnx,hk⟩
   exact hn v w' β' Z' fp' s' hnx hk
  ·rename_i g id off hx
   obtain⟨he,_⟩:=aI hf hx
   obtain⟨vs,hvs,hk⟩:=qI hf _ _ h
   unfold eH at hk
   obtain⟨hcf,hc⟩:=hk
   have hc:=hc β Z fp w hs
   unfold Oper.wp
   have hr:(execOp a.eval ⟨dst,.call ⟨.value f,args,argTypes⟩,type,pos,after,guard⟩).run P w= .ok (.enter g ((SV.c (.ptr id off)::vs).map (SV.den β)++[]).toArray) w:=by
    have e1: #[Value.pointer ((β id).map (·.add off))]++(args.map a.eval)++ #[]=((SV.c (.ptr id off)::vs).map (SV.den β)++[]).toArray:=by
     apply Array.ext'
     simp[hvs,SV.den,SA.den,SC.den]
    simp only[execOp,resolve,he,SV.den,SA.den,SC.den,Deferred.ofValue,pure_bind,invoke,Array.append_empty]
    rw[hcf]
    rw[Array.append_empty]at e1
    rw[e1]
   rw[hr]
   refine hc.mono ?_
   rintro e w' ⟨v,β',Z',fp',s',rfl,hnx,hk⟩
   exact hn v w' β' Z' fp' s' hnx hk
 ·unfold XOp at h
  exact h β Z fp w a df hs hf next Q hn
end Go.Fw
