/-
  The soundness of the quiet operations, joined.
-/
import Derived.Test.YtemhgpoeccbheaaGreatDoorQ00
import Derived.Maps.RangeRun
import Derived.Laws.OwnMore
set_option linter.unusedSimpArgs false
set_option linter.unusedVariables false
set_option maxRecDepth 100000
set_option maxHeartbeats 16000000
namespace Go.Fw
open Go
section
variable {P:Program} {ty:List (Nat×STy)} {β:Env} {Z:Nat->Prop} {fp:Nat->Nat->Prop} {s:S} {w:World} {N:NT} {a:Act}
theorem aA9 (hty:cZ P ty) (hf:cQ β s N a) {k:SV->Prop} {dst:Option Nat} {T:TypeId} {x:Operand} {lo hi mx:Option Operand} {type:TypeId} {pos:String}
  {after:Array Edge} {guard:Option (Nat×Bool)} (h:qOp ty (.slice T x lo hi mx) s k):QOk P β s a ⟨dst,.slice T x lo hi mx,type,pos,after,guard⟩ k:=by
 cases mx with
 |some m=>exact h.elim
 |none=>
 simp only[qOp]at h
 split at h<;>try exact h.elim
 rotate_left
 ·rename_i d b hd hx
  split at h<;>try exact h.elim
  rename_i hkd
  rw[cH,decide_eq_true_eq]at hkd
  obtain⟨l,h,hl⟩:=mS hf _ _ _ h
  obtain⟨u,h,hu⟩:=mS hf _ _ _ h
  obtain⟨⟨h0,h1,h2⟩,h⟩:=h
  obtain⟨he,hlt⟩:=aI hf hx
  have hun:=(hty T d hd).kd3 hkd
  have hb: ∀w,(Instr.sliceBounds false b.size b.size (lo.map a.eval) (hi.map a.eval) none).run P w= .ok (l.toNat,u.toNat,b.size) w:=by
   intro w
   rcases hu with⟨rfl,rfl⟩|⟨y,rfl,hy⟩<;>rcases hl with⟨rfl,rfl⟩|⟨z,rfl,hz⟩
   ·simp[Instr.sliceBounds]
   ·simp[Instr.sliceBounds,Instr.sliceBound,asIntOf,hz,if_pos (And.intro h0 h1)]
   ·simp[Instr.sliceBounds,Instr.sliceBound,asIntOf,hy,if_pos (And.intro (Int.le_trans h0 h1) h2)]
   ·have h1':l<=(u.toNat:Int):=by omega
    have h3:0<=u:=Int.le_trans h0 h1
    simp only[Instr.sliceBounds,Instr.sliceBound,asIntOf,Option.map_some,hy,hz,pure_bind,if_pos (And.intro h3 h2),if_pos (And.intro h0 h1'),Sem.run_pure]
  refine QOk.mk (.c (.v (.string (b.extract l.toNat u.toNat)))) (fun w=>?_) rfl h
  simp only[execOp,he,SV.den,SA.den,SC.den,Sem.run_bind,Instr.sliceAt,run_underlying hun,Result.andThen_ok,Instr.slice,Option.map_none,hb,Sem.run_pure,Option.isSome_none,Bool.false_eq_true,if_false]
 rename_i d id sz lo0 len cap hd hx
 split at h<;>try exact h.elim
 rename_i E ek by_ hsl
 split at h<;>try exact h.elim
 rename_i hsz
 rw[cH,decide_eq_true_eq]at hsz
 obtain⟨l,h,hl⟩:=mS hf _ _ _ h
 obtain⟨u,h,hu⟩:=mS hf _ _ _ h
 obtain⟨⟨h0,h1,h2⟩,h⟩:=h
 obtain⟨he,hlt⟩:=aI hf hx
 obtain⟨hun,hE,_⟩:=(hty T d hd).sl _ _ _ hsl
 have hb: ∀w,(Instr.sliceBounds true len cap (lo.map a.eval) (hi.map a.eval) none).run P w= .ok (l.toNat,u.toNat,cap) w:=by
  intro w
  rcases hu with⟨rfl,rfl⟩|⟨y,rfl,hy⟩<;>rcases hl with⟨rfl,rfl⟩|⟨z,rfl,hz⟩
  ·simp[Instr.sliceBounds]
  ·simp[Instr.sliceBounds,Instr.sliceBound,asIntOf,hz,if_pos (And.intro h0 h1)]
  ·simp[Instr.sliceBounds,Instr.sliceBound,asIntOf,hy,if_pos (And.intro (Int.le_trans h0 h1) h2)]
  ·have h1':l<=(u.toNat:Int):=by omega
   have h3:0<=u:=Int.le_trans h0 h1
   simp only[Instr.sliceBounds,Instr.sliceBound,asIntOf,Option.map_some,hy,hz,pure_bind,if_pos (And.intro h3 h2),if_pos (And.intro h0 h1'),Sem.run_pure]
 have hrun: ∀w,(execOp a.eval ⟨dst,.slice T x lo hi none,type,pos,after,guard⟩).run P w=
   .ok (.value (.slice (if cap=l.toNat then(β id).map (·.add (lo0*sz))else((β id).map (·.add (lo0*sz))).map (·.add (l.toNat*sz))) (u.toNat-l.toNat) (cap-l.toNat))) w:=by
  intro w
  simp only[execOp,he,SV.den,SA.den,SC.den,Sem.run_bind,Instr.sliceAt,run_underlying hun,Result.andThen_ok,Instr.slice,Option.map_none,hb,hE,Sem.run_pure,hsz]
 rw[mG]at h
 have hm: ∀y:Addr,(y.add (lo0*sz)).add (l.toNat*sz)=y.add ((lo0+l.toNat)*sz)\/l.toNat*sz=0\/True:=fun _=> .inr (.inr trivial)
 split at h
 ·rename_i hc
  rw[decide_eq_true_eq]at hc
  refine QOk.mk (.c (.sl id sz (lo0+l.toNat) (u-l).toNat (cap-l.toNat))) (fun w=>?_) hlt h
  rw[hrun,if_neg (by omega)]
  simp only[SV.den,SA.den,SC.den]
  congr 3
  ·rw[Option.map_map]
   congr 1
   funext y
   simp only[Function.comp]
   have hss: ∀(y:Addr) (m n:Nat),(y.add m).add n=y.add (m+n):=by
    intro y m n
    unfold Addr.add
    by_cases hm:m=0
    ·subst hm;simp
    ·by_cases hn:n=0
     ·subst hn;simp
     ·simp[hm,hn,Nat.add_assoc]
   rw[hss,Nat.add_mul]
  ·omega
 ·rename_i hc
  simp only[decide_eq_true_eq]at hc
  refine QOk.mk (.c (.sl id sz lo0 (u-l).toNat (cap-l.toNat))) (fun w=>?_) hlt h
  rw[hrun,if_pos (by omega)]
  simp only[SV.den,SA.den,SC.den]
  congr 3
  omega
theorem aBc (hty:cZ P ty) (hf:cQ β s N a) {k:SV->Prop} {dst:Option Nat} {T:TypeId} {parts:Array (Nat×Operand)} {type:TypeId} {pos:String}
  {after:Array Edge} {guard:Option (Nat×Bool)} (h:qOp ty (.build T parts) s k):QOk P β s a ⟨dst,.build T parts,type,pos,after,guard⟩ k:=by
 simp only[qOp]at h
 split at h<;>try exact h.elim
 rename_i d hd
 split at h<;>try exact h.elim
 rename_i hagg
 have ht:=hty T d hd
 obtain⟨fields,hu,hfs⟩:=ht.str hagg
 have hz: ∀c∈d.zero,SC.lt s.nx c:=fun c hc=>SC.lt_mono (Nat.zero_le _) (ht.zlt c hc)
 have hz0:d.zero.map (SC.den fun _=>none)=d.zero.map (SC.den β):=SC.map_den_congr (n:=0) (fun id h=>absurd h (by omega)) ht.zlt
 obtain⟨l,hl,hll,hk⟩:=uI (β:=β) hf d.offs (fun i=>d.offs.toArray[i]?) (fun i p h=>by simpa using h) _ _ _ hz h
 refine QOk.mk (.a (.agg l)) (fun w=>?_) hll hk
 have hb:=ht.bt hagg (parts.map fun(i,x)=>(i,a.eval x)).toList
 rw[hz0]at hb
 simp only[Array.toList_map]at hb
 rw[hl]at hb
 simp only[execOp,Sem.run_bind]
 rw[run_build w T _ _ (by simpa using hb)]
 rfl
def vT:Op->Bool
 | .load _ _=>true
 | .lookup _ _ _ _=>true
 | .entry _=>true
 | .call {callee:= .builtin .len,.. }=>true
 |_=>false
theorem Af (kk vk:EK) (x:kk.ty): ∀(es:List (kk.ty×vk.ty×Nat)) (i:Nat),(jH kk vk x es i).map (·.2)=(lkM es x).map vk.val
 | [],i=>rfl
 |(y,v,n)::es,i=>by
  simp only[jH,lkM]
  by_cases h:y=x
  ·rw[if_pos h,if_pos h];rfl
  ·rw[if_neg h,if_neg h];exact Af kk vk x es (i+1)
theorem xV {v:SV} {kk:EK} {cs:List SC} {key:kk.ty} (hc:cellsOf v=some cs) (hk:kk.ofSym cs=some key) (ha:eqB (zX v) kk.isAgg=true):v.den β=kk.val key:=by
 have hcells:=dI (β:=β) hk
 cases v with
 |tup l=>cases hc
 |a x=>
  cases x with
  |c c=>
   cases hc
   have hn:kk.isAgg=false:=by
    cases h:kk.isAgg with
    |false=>rfl
    |true=>rw[h]at ha;cases ha
   simp only[List.map_cons,List.map_nil]at hcells
   show c.den β=kk.val key
   cases kk<;>first
    |(exact absurd hn (by decide))
    |(simp only[EK.cells,EK.sym,List.map_cons,List.map_nil,List.cons.injEq,and_true]at hcells;rw[hcells];rfl)
  |agg l=>
   cases hc
   have hn:kk.isAgg=true:=by
    cases h:kk.isAgg with
    |true=>rfl
    |false=>rw[h]at ha;cases ha
   show Value.agg (cs.map (SC.den β)).toArray=kk.val key
   rw[hcells]
   cases kk<;>first|(exact absurd hn (by decide))|rfl
theorem iD {b:Nat} {o:Obj} (h:w.heap[b]?=some o) (hc: ∀x y z,o≠ .cells x y z):(getObj b).run P w= .ok o w:=by
 cases o<;>first|(exact absurd rfl (hc _ _ _))|simp[getObj,Sem.run,h]
theorem rV (hs:aR β Z fp s w) {id clk:Nat} {kk vk:EK} {es:List (kk.ty×vk.ty×Nat)} (h:aE s.hp id=some (.map kk vk es clk)):
 ∃b,β id=some ⟨b,0,none⟩/\fp id b/\w.heap[b]?=some (.map (es.map (ent kk vk)).toArray clk):=hs.obj id _ h
theorem Xz (hty:cZ P ty) (hs:aR β Z fp s w) (hf:cQ β s N a) {k:SV->Prop} {dst:Option Nat} {T:TypeId} {x ix:Operand} {ok:Bool} {type:TypeId} {pos:String}
  {after:Array Edge} {guard:Option (Nat×Bool)} (h:qOp ty (.lookup T x ix ok) s k):lB P β s w a ⟨dst,.lookup T x ix ok,type,pos,after,guard⟩ k:=by
 simp only[qOp]at h
 split at h<;>try exact h.elim
 rename_i d id kv hd hx hi
 split at h<;>try exact h.elim
 rename_i kt kk vt vk kk0 vk0 es clk cs hmp hl hcs
 split at h<;>try exact h.elim
 rename_i key hk hb1 hb2 hag
 have e1:=EK.beq_eq hb1
 have e2:=EK.beq_eq hb2
 subst e1 e2
 rw[kQ]at h
 obtain⟨hex,_⟩:=aI hf hx
 obtain⟨hei,_⟩:=aI hf hi
 obtain⟨b,hb,_,hh⟩:=rV hs hl
 have hm:=(hty T d hd).mp _ _ _ _ hmp
 have hkv:=xV (β:=β) hcs hk hag
 have hlk:=Af kk0 vk0 key es 0
 have hfk:=hm.fk key es w
 have hrun:(Instr.lookup T (.map (some b)) (kk0.val key) ok).run P w= .ok (if ok then .tuple #[vk0.val ((lkM es key).getD vk0.dflt),.bool (lkM es key).isSome]else vk0.val ((lkM es key).getD vk0.dflt)) w:=by
  unfold Instr.lookup
  simp only[Sem.run_bind,run_underlying hm.ty,Result.andThen_ok,iD hh (by intro _ _ _ e;cases e),Sem.run_pure,hm.ck,hfk]
  cases hfe:jH kk0 vk0 key es 0 with
  |none=>
   rw[hfe]at hlk
   have hn:lkM es key=none:=by cases hq:lkM es key with
    |none=>rfl
    |some q=>rw[hq]at hlk;cases hlk
   simp only[Sem.run_bind,hm.zv,Result.andThen_ok,Sem.run_pure,hn]
   cases ok<;>rfl
  |some p=>
   obtain⟨i,v⟩:=p
   rw[hfe]at hlk
   cases hq:lkM es key with
   |none=>rw[hq]at hlk;cases hlk
   |some q=>
    rw[hq]at hlk
    simp only[Option.map_some,Option.some.injEq]at hlk
    simp only[Sem.run_pure,Result.andThen_ok,hlk]
    cases ok<;>rfl
 have hmap:a.eval x= .map (some b):=by rw[hex];simp[SV.den,SA.den,SC.den,hb]
 cases ok with
 |true=>
  refine lB.mk (.tup [vk0.symA ((lkM es key).getD vk0.dflt),.c (.b (lkM es key).isSome)]) ?_ ?_ h
  ·simp only[execOp,hmap,hei,hkv,Sem.run_bind,hrun,Result.andThen_ok,Sem.run_pure]
   simp[SV.den,EK.symA_den];rfl
  ·intro c hc
   simp only[List.mem_cons,List.not_mem_nil,or_false]at hc
   rcases hc with rfl|rfl
   ·exact EK.symA_lt _ _ _
   ·trivial
 |false=>
  refine lB.mk (.a (vk0.symA ((lkM es key).getD vk0.dflt))) ?_ (EK.symA_lt _ _ _) h
  simp only[execOp,hmap,hei,hkv,Sem.run_bind,hrun,Result.andThen_ok,Sem.run_pure]
  simp[SV.den,EK.symA_den]
theorem aBb (hs:aR β Z fp s w) (hf:cQ β s N a) {k:SV->Prop} {dst:Option Nat} {x:Operand} {type:TypeId} {pos:String}
  {after:Array Edge} {guard:Option (Nat×Bool)} (h:qOp ty (.entry x) s k):lB P β s w a ⟨dst,.entry x,type,pos,after,guard⟩ k:=by
 simp only[qOp]at h
 split at h<;>try exact h.elim
 rename_i it hx
 split at h<;>try exact h.elim
 rename_i mid since seen last cur hl
 split at h<;>try exact h.elim
 rename_i kk vk es clk hl2
 obtain⟨⟨hbo,rfl,hcur,hlast⟩,h⟩:=h
 have h:=h hcur
 rw[kQ,kQ]at h
 obtain⟨hex,_⟩:=aI hf hx
 obtain⟨b,r,hb,_,hr,hh⟩: ∃b r,β it=some ⟨b,0,none⟩/\fp it b/\β mid=some ⟨r,0,none⟩/\w.heap[b]?=some (.mapIter (some r) since seen.toArray last):=hs.obj it _ hl
 obtain⟨r',hr',_,hh2⟩:=rV hs hl2
 rw[hr]at hr'
 cases hr'
 refine lB.mk (.tup [kk.symA es[cur].1,vk.symA es[cur].2.1]) ?_ ?_ h
 ·obtain⟨seen',hsn⟩: ∃l,seen=l++[es[cur].2.2]:=by
   refine⟨seen.dropLast,?_⟩
   have hne:seen≠ []:=by intro e;rw[e]at hlast;cases hlast
   rw[List.getLast?_eq_some_getLast hne]at hlast
   have:=List.dropLast_concat_getLast hne
   rw[Option.some.inj hlast]at this
   exact this.symm
  have hrun:=run_entry_at (P:=P) w b r since seen'.toArray (es.map (ent kk vk)).toArray last (ent kk vk es[cur]) (by rw[hh,hsn];simp[ent]) hh2 (List.mem_map.2 ⟨es[cur],List.getElem_mem hcur,rfl⟩) (by
   have e1:((es.map (ent kk vk)).toArray.toList.map (·.born))=es.map (·.2.2):=by simp[ent]
   rw[e1];exact hbo.1)
  have hp:a.eval x= .pointer (some ⟨b,0,none⟩):=by rw[hex];simp[SV.den,SA.den,SC.den,hb,Addr.add_lit]
  simp only[execOp,hp,Sem.run_bind,hrun,Result.andThen_ok,Sem.run_pure]
  simp[SV.den,EK.symA_den,ent]
 ·intro c hc
  simp only[List.mem_cons,List.not_mem_nil,or_false]at hc
  rcases hc with rfl|rfl
  ·exact EK.symA_lt _ _ _
  ·exact EK.symA_lt _ _ _
theorem Cx (hty:cZ P ty) (hs:aCd β s) (hf:cQ β s N a) {k:SV->Prop} {o:Oper} (hl:vT o.op=false) (h:qOp ty o.op s k):QOk P β s a o k:=by
 obtain⟨dst,op,type,pos,after,guard⟩:=o
 cases op<;>try exact h.elim
 case move x=>
  simp only[qOp]at h
  split at h<;>try exact h.elim
  rename_i v hx
  obtain⟨he,hlt⟩:=aI hf hx
  exact QOk.mk v (fun w=>by simp[execOp,he]) hlt h
 case assign x=>
  simp only[qOp]at h
  split at h<;>try exact h.elim
  rename_i v hx
  obtain⟨he,hlt⟩:=aI hf hx
  exact QOk.mk v (fun w=>by simp[execOp,he]) hlt h
 case pick c x y=>
  simp only[qOp]at h
  split at h<;>try exact h.elim
  rename_i b v u hc hx hy
  obtain⟨hec,_⟩:=aI hf hc
  obtain⟨hex,hltx⟩:=aI hf hx
  obtain⟨hey,hlty⟩:=aI hf hy
  rw[mG]at h
  cases b with
  |true=>exact QOk.mk v (fun w=>by simp[execOp,hec,hex,SV.den,SA.den,SC.den,asBool]) hltx (by simpa using h)
  |false=>exact QOk.mk u (fun w=>by simp[execOp,hec,hey,SV.den,SA.den,SC.den,asBool]) hlty (by simpa using h)
 case fieldAddr T x f=>exact It hty hs hf h
 case load T x=>cases hl
 case lookup=>cases hl
 case entry=>cases hl
 case indexAddr T x ix=>exact aBa hty hs hf h
 case slice T x lo hi mx=>exact aA9 hty hf h
 case index T x ix=>
  simp only[qOp]at h
  split at h<;>try exact h.elim
  rename_i d b n hd hx hi
  split at h<;>try exact h.elim
  rename_i hkd
  rw[cH,decide_eq_true_eq]at hkd
  obtain⟨⟨h0,h1⟩,h⟩:=h
  obtain⟨he,_⟩:=aI hf hx
  obtain⟨hei,_⟩:=aI hf hi
  have hun:=(hty T d hd).kd3 hkd
  have hn:n.toNat<b.size:=by omega
  have hb:b[n.toNat]?=some (b.data.toList.getD n.toNat 0):=by
   have hn2:n.toNat<b.data.toList.length:=by simpa using hn
   rw[getElem?_pos b n.toNat hn]
   congr 1
   simp only[List.getD,List.getElem?_eq_getElem hn2,Option.getD_some]
   rfl
  refine QOk.mk (.c (.v (.int .u8 (aAu b n.toNat)))) (fun w=>?_) rfl h
  simp only[execOp,he,hei,SV.den,SA.den,SC.den,Sem.run_bind,Instr.index,asIntOf,pure_bind,run_underlying hun,Result.andThen_ok,if_pos h0,hb,Sem.run_pure,aAu]
 case build T parts=>exact aBc hty hf h
 case nilCheck x=>
  simp only[qOp]at h
  split at h<;>try exact h.elim
  ·rename_i id off hx
   split at h<;>try exact h.elim
   rename_i T cs hl
   obtain⟨he,hlt⟩:=aI hf hx
   obtain⟨b,hb⟩:=hs.box _ _ _ hl
   exact QOk.mk (.c (.ptr id off)) (fun w=>by simp[execOp,he,SV.den,SA.den,SC.den,hb]) hlt h
  ·rename_i id sz i off hx
   split at h<;>try exact h.elim
   rename_i own E ek xs sp hl
   obtain⟨hi,h⟩:=h
   obtain⟨he,hlt⟩:=aI hf hx
   obtain⟨x',hb,hsp⟩:=hs.arr _ _ _ _ _ _ _ hl hi
   exact QOk.mk (.c (.elt id sz i off)) (fun w=>by simp[execOp,he,SV.den,SA.den,SC.den,hb]) hlt h
  ·rename_i f c hx
   obtain⟨he,hlt⟩:=aI hf hx
   exact QOk.mk (.c (.fn f c)) (fun w=>by simp[execOp,he,SV.den,SA.den,SC.den]) hlt h
  ·rename_i f c hx
   obtain⟨he,hlt⟩:=aI hf hx
   exact QOk.mk (.c (.fnv f c)) (fun w=>by simp[execOp,he,SV.den,SA.den,SC.den]) hlt h
  ·rename_i q hx
   obtain⟨hq,h⟩:=h
   obtain⟨he,hlt⟩:=aI hf hx
   cases q with
   |none=>cases hq
   |some y=>exact QOk.mk (.c (.q (some y))) (fun w=>by simp[execOp,he,SV.den,SA.den,SC.den]) hlt h
 case binOp op T x y yt=>
  simp only[qOp]at h
  split at h<;>try exact h.elim
  ·rename_i p q hx hy
   obtain⟨hex,_⟩:=aI hf hx
   obtain⟨hey,_⟩:=aI hf hy
   obtain⟨v,hv,hl,hk⟩:=Oq (P:=P) (β:=β) h T x y s.nx
   refine QOk.mk v (fun w=>?_) hl hk
   have hv:=hv w
   simp only[execOp,hex,hey,SV.den,SA.den,SC.den,Sem.run_bind]at hv⊢
   rw[hv];rfl
  ·rename_i p q hx hy
   split at h<;>try exact h.elim
   rename_i d hd
   obtain⟨hex,_⟩:=aI hf hx
   obtain⟨hey,_⟩:=aI hf hy
   obtain⟨v,hv,hl,hk⟩:=Ou (P:=P) (β:=β) h T (hty T d hd).kd2 x y s.nx
   refine QOk.mk v (fun w=>?_) hl hk
   have hv:=hv w
   simp only[execOp,hex,hey,SV.den,SA.den,SC.den,Sem.run_bind]at hv⊢
   rw[hv];rfl
  ·rename_i p q hx hy
   obtain⟨hex,_⟩:=aI hf hx
   obtain⟨hey,_⟩:=aI hf hy
   obtain⟨v,hv,hl,hk⟩:=On (P:=P) (β:=β) h T x y s.nx
   refine QOk.mk v (fun w=>?_) hl hk
   have hv:=hv w
   simp only[execOp,hex,hey,SV.den,SA.den,SC.den,Sem.run_bind]at hv⊢
   rw[hv];rfl
  ·rename_i p q hx hy
   obtain⟨hex,_⟩:=aI hf hx
   obtain⟨hey,_⟩:=aI hf hy
   obtain⟨v,hv,hl,hk⟩:=Om (P:=P) (β:=β) h T x y s.nx
   refine QOk.mk v (fun w=>?_) hl hk
   have hv:=hv w
   simp only[execOp,hex,hey,SV.den,SA.den,SC.den,Sem.run_bind]at hv⊢
   rw[hv];rfl
  ·rename_i p q hx hy
   obtain⟨hex,_⟩:=aI hf hx
   obtain⟨hey,_⟩:=aI hf hy
   obtain⟨v,hv,hl,hk⟩:=Ot (P:=P) (β:=β) h T x y s.nx
   refine QOk.mk v (fun w=>?_) hl hk
   have hv:=hv w
   simp only[execOp,hex,hey,SV.den,SA.den,SC.den,Sem.run_bind]at hv⊢
   rw[hv];rfl
  ·rename_i p hx hy
   split at h<;>try exact h.elim
   rename_i d hd hcy
   split at h<;>try exact h.elim
   rename_i hkd
   rw[cH,decide_eq_true_eq]at hkd
   obtain⟨ms,hms⟩:=(hty T d hd).kd10 hkd
   obtain⟨hex,_⟩:=aI hf hx
   obtain⟨hey,_⟩:=aI hf hy
   cases y with
   |const c=>
    obtain⟨v,hv,hl,hk⟩:=Oo (P:=P) (β:=β) h T hms x c s.nx
    refine QOk.mk v (fun w=>?_) hl hk
    have hv:=hv w
    simp only[execOp,hex,hey,SV.den,SA.den,SC.den,Sem.run_bind]at hv⊢
    rw[hv];rfl
   |_=>cases hcy
  ·rename_i l m hx hy
   split at h<;>try exact h.elim
   rename_i d hd
   split at h<;>try exact h.elim
   rename_i xs ys hk hxs hys
   split at h<;>try exact h.elim
   rename_i h1 h2
   rw[cH,decide_eq_true_eq]at hk h1 h2
   rw[bD,bD]at h1 h2
   obtain⟨hex,_⟩:=aI hf hx
   obtain⟨hey,_⟩:=aI hf hy
   obtain⟨v,hv,hl,hk⟩:=Ok (P:=P) (β:=β) h T ((hty T d hd).cmp hk) h1 h2 x y s.nx
   refine QOk.mk v (fun w=>?_) hl hk
   have hv:=hv w
   rw[<-rY (β:=β) hxs,<-rY (β:=β) hys]at hv
   simp only[execOp,hex,hey,SV.den,SA.den,SC.den,Sem.run_bind]at hv⊢
   rw[hv];rfl
  ·rename_i id sz lo len cap hx hy
   split at h<;>try exact h.elim
   rename_i d own E ek xs sp hd hl
   split at h<;>try exact h.elim
   rename_i q hq
   obtain⟨E',ek',by_⟩:=q
   obtain⟨hex,_⟩:=aI hf hx
   obtain⟨hey,_⟩:=aI hf hy
   obtain⟨hu,_⟩:=(hty _ _ hd).sl _ _ _ hq
   obtain⟨v,hv,hl,hk⟩:=Nl (P:=P) (β:=β) (a:=(β id).map (·.add (lo*sz))) (l:=len) (c:=cap) h T E' hu (by
    intro e
    cases xs with
    |nil=>rfl
    |cons x xs=>
     obtain⟨y,hy,_⟩:=hs.arr _ _ _ _ _ _ 0 hl (by simp)
     rw[hy]at e;cases e) x y s.nx
   refine QOk.mk v (fun w=>?_) hl hk
   have hv:=hv w
   simp only[execOp,hex,hey,SV.den,SA.den,SC.den,Sem.run_bind]at hv⊢
   rw[hv];rfl
 case unOp op T x=>
  cases op<;>try exact h.elim
  case not=>
   simp only[qOp]at h
   split at h<;>try exact h.elim
   rename_i c hx
   obtain⟨he,_⟩:=aI hf hx
   exact QOk.mk (.b (!c)) (fun w=>by simp[execOp,he,SV.den,SA.den,SC.den,Op.unary]) trivial h
  case neg=>
   simp only[qOp]at h
   split at h<;>try exact h.elim
   rename_i n hx
   obtain⟨he,_⟩:=aI hf hx
   exact QOk.mk (.i (0-n)) (fun w=>by simp only[execOp,he,SV.den,SA.den,SC.den,Op.unary,Op.intArith,Sem.run_bind,Sem.run_pure,lE h.ob,Result.andThen_ok]) trivial h.go
 case convert src dst' x=>
  have key: ∀(kd kd':Nat) (q q':IntKind) (n:Int) (d e:STy),a.eval x= .int q n->aE ty src=some d->aE ty dst'=some e->P.underlying src=some (.int q)->P.underlying dst'=some (.int q')->
    ∀w,(execOp a.eval ⟨dst,.convert src dst' x,type,pos,after,guard⟩).run P w= .ok (.value (.int q' (q'.wrap n))) w:=by
   intro kd kd' q q' n d e he hd he' hu1 hu2 w
   simp only[execOp,he,Sem.run_bind]
   rw[run_convert_int w src dst' q n (by simp[hu1]) (by simp[hu2,Program.intKind])]
   simp[Program.intKind,hu2]
  have wu: ∀n:Int,0<=n/\n<=18446744073709551615->IntKind.u64.wrap n=n:=fun n hn=>aCt hn
  simp only[qOp]at h
  split at h<;>try exact h.elim
  ·rename_i n d e hx hd he'
   obtain⟨he,_⟩:=aI hf hx
   split at h<;>try exact h.elim
   ·rename_i h1 h2
    rw[cH,decide_eq_true_eq]at h1 h2
    refine QOk.mk (.i n) (fun w=>?_) trivial h.go
    rw[key 1 1 .i64 .i64 n d e he hd he' ((hty _ _ hd).kd1 h1) ((hty _ _ he').kd1 h2) w,lE h.ob];rfl
   ·rename_i h1 _
    split at h<;>try exact h.elim
    ·rename_i h2
     rw[cH,decide_eq_true_eq]at h1 h2
     refine QOk.mk (.c (.u n)) (fun w=>?_) trivial h.go
     rw[key 1 1 .i64 .u64 n d e he hd he' ((hty _ _ hd).kd1 h1) ((hty _ _ he').kd4 h2) w,wu n h.ob];rfl
    ·rename_i _ h2
     rw[cH,decide_eq_true_eq]at h1 h2
     have h8:IntKind.u8.wrap n=n:=by have:=h.ob;simp[IntKind.wrap,IntKind.bits,IntKind.signed];omega
     refine QOk.mk (.c (.v (.int .u8 n))) (fun w=>?_) rfl h.go
     rw[key 1 1 .i64 .u8 n d e he hd he' ((hty _ _ hd).kd1 h1) ((hty _ _ he').kd9 h2) w,h8];rfl
  ·rename_i n d e hx hd he'
   obtain⟨he,_⟩:=aI hf hx
   split at h<;>try exact h.elim
   rename_i h1 h2
   rw[cH,decide_eq_true_eq]at h1 h2
   have hin:InI n:=by have:=h.ob;unfold InI;omega
   refine QOk.mk (.i n) (fun w=>?_) trivial h.go
   rw[key 1 1 .u8 .i64 n d e he hd he' ((hty _ _ hd).kd9 h1) ((hty _ _ he').kd1 h2) w,lE hin];rfl
  ·rename_i n d e hx hd he'
   obtain⟨he,_⟩:=aI hf hx
   split at h<;>try exact h.elim
   ·rename_i h1 h2
    rw[cH,decide_eq_true_eq]at h1 h2
    refine QOk.mk (.i n) (fun w=>?_) trivial h.go
    rw[key 1 1 .u64 .i64 n d e he hd he' ((hty _ _ hd).kd4 h1) ((hty _ _ he').kd1 h2) w,lE h.ob];rfl
   ·rename_i h1 _
    split at h<;>try exact h.elim
    rename_i h2
    rw[cH,decide_eq_true_eq]at h1 h2
    refine QOk.mk (.c (.u n)) (fun w=>?_) trivial h.go
    rw[key 1 1 .u64 .u64 n d e he hd he' ((hty _ _ hd).kd4 h1) ((hty _ _ he').kd4 h2) w,wu n h.ob];rfl
 case extract x i=>
  simp only[qOp]at h
  split at h<;>try exact h.elim
  rename_i l hx
  split at h<;>try exact h.elim
  rename_i v hv
  obtain⟨he,hlt⟩:=aI hf hx
  rw[dH]at hv
  refine QOk.mk (.a v) (fun w=>?_) (hlt v (List.mem_of_getElem? hv)) h
  simp[execOp,he,SV.den,Instr.extract,hv]
 case makeFunc fn first caps=>
  cases fn<;>try exact h.elim
  rename_i f
  simp only[qOp]at h
  split at h<;>try exact h.elim
  ·rename_i hfirst
   obtain⟨r,hr,hrl,hk⟩:=xD (β:=β) hf _ _ h
   refine QOk.mk (.c (.fn f r)) (fun w=>?_) hrl hk
   have h1:first.map a.eval= #[]:=by apply Array.ext';simp[hfirst]
   have h2:caps.map a.eval=(r.map (fun p=>Value.pointer ((β p.1).map (·.add p.2)))).toArray:=by apply Array.ext';simp[<-hr]
   simp[execOp,Instr.makeFunc,h1,h2,SV.den,SA.den,SC.den]
  rename_i x hfirst
  split at h<;>try exact h.elim
  rename_i id off hcaps hx
  obtain⟨he,hlt⟩:=aI hf hx
  refine QOk.mk (.c (.fm f id off)) (fun w=>?_) hlt h
  have h1:first.map a.eval= #[a.eval x]:=by apply Array.ext';simp[hfirst]
  have h2:caps.map a.eval= #[]:=by apply Array.ext';simp[hcaps]
  simp[execOp,Instr.makeFunc,h1,h2,he,SV.den,SA.den,SC.den]
 case call c=>
  obtain⟨callee,args,argTypes⟩:=c
  cases callee<;>try exact h.elim
  rename_i bi
  cases bi<;>first|exact h.elim|cases hl
theorem aDA (hty:cZ P ty) (hs:aR β Z fp s w) (hf:cQ β s N a) {k:SV->Prop} {dst:Option Nat} {args:Array Operand} {argTypes:Array TypeId} {type:TypeId} {pos:String}
 {after:Array Edge} {guard:Option (Nat×Bool)} (h:qOp ty (.call ⟨.builtin .len,args,argTypes⟩) s k):lB P β s w a ⟨dst,.call ⟨.builtin .len,args,argTypes⟩,type,pos,after,guard⟩ k:=by
 simp only[qOp]at h
 split at h<;>try exact h.elim
 rename_i x t h1 h2
 have ha:args= #[x]:=by apply Array.ext';simp[h1]
 have hat:argTypes= #[t]:=by apply Array.ext';simp[h2]
 subst ha hat
 split at h<;>try exact h.elim
 ·rename_i id sz lo n cap d hx hd
  split at h<;>try exact h.elim
  rename_i q hq
  obtain⟨E,ek,by_⟩:=q
  obtain⟨he,_⟩:=aI hf hx
  obtain⟨hu,_⟩:=(hty _ _ hd).sl _ _ _ hq
  refine lB.mk (.i n) ?_ trivial h
  simp[execOp,resolve,invoke,builtin,he,SV.den,SA.den,SC.den,Builtin.len_,run_underlying hu,goInt]
 ·rename_i d hx hd
  split at h<;>try exact h.elim
  rename_i q hq
  obtain⟨E,ek,by_⟩:=q
  obtain⟨he,_⟩:=aI hf hx
  obtain⟨hu,_⟩:=(hty _ _ hd).sl _ _ _ hq
  refine lB.mk (.i 0) ?_ trivial h
  simp[execOp,resolve,invoke,builtin,he,SV.den,SA.den,SC.den,Builtin.len_,run_underlying hu,goInt]
 ·rename_i hd0 d hx hd
  split at h<;>try exact h.elim
  rename_i q hq
  obtain⟨E,ek,by_⟩:=q
  obtain⟨he,_⟩:=aI hf hx
  obtain⟨hu,_⟩:=(hty _ _ hd).sl _ _ _ hq
  refine lB.mk (.i hd0.n) ?_ trivial h
  simp[execOp,resolve,invoke,builtin,he,SV.den,SA.den,SC.den,Builtin.len_,run_underlying hu,goInt]
 ·rename_i id d hx hd
  split at h<;>try exact h.elim
  rename_i q kk vk es clk hmp hl
  obtain⟨kt,kk',vt,vk'⟩:=q
  obtain⟨he,_⟩:=aI hf hx
  obtain⟨b,hb,_,hh⟩:=rV hs hl
  have hm:=(hty _ _ hd).mp _ _ _ _ hmp
  refine lB.mk (.i es.length) ?_ trivial h
  simp[execOp,resolve,invoke,builtin,he,SV.den,SA.den,SC.den,hb,Builtin.len_,run_underlying hm.ty,goInt,iD hh (by intro _ _ _ e;cases e)]
 ·rename_i b d hx hd
  split at h<;>try exact h.elim
  rename_i hk
  rw[cH,decide_eq_true_eq]at hk
  obtain⟨he,_⟩:=aI hf hx
  have hu:=(hty _ _ hd).kd3 hk
  refine lB.mk (.i b.size) ?_ trivial h
  simp[execOp,resolve,invoke,builtin,he,SV.den,SA.den,SC.den,Builtin.len_,run_underlying hu,goInt]
theorem vE (hty:cZ P ty) (hs:aR β Z fp s w) (hf:cQ β s N a) {k:SV->Prop} {o:Oper} (h:qOp ty o.op s k):lB P β s w a o k:=by
 cases hl:vT o.op with
 |false=>obtain⟨v,h1,h2,h3⟩:=Cx hty hs.b hf hl h;exact⟨v,h1 w,h2,h3⟩
 |true=>
  obtain⟨dst,op,type,pos,after,guard⟩:=o
  cases op<;>first
   |exact aCG hty hs hf h
   |exact Xz hty hs hf h
   |exact aBb hs hf h
   |(cases hl;done)
   |skip
  rename_i c
  obtain⟨callee,args,argTypes⟩:=c
  cases callee<;>first|(cases hl;done)|skip
  rename_i bi
  cases bi<;>first|exact aDA hty hs hf h|(cases hl;done)
end
def mY {α:Type}:List (Nat×α)->Nat->List (Nat×α)
 | [],_=> []
 |(t,v)::l,u=>match Nat.beq t u with
  |true=>mY l u
  |false=>(t,v)::mY l u
def By {α:Type}:List (Nat×α)->Nat->(List (Nat×α)->Prop)->Prop
 | [],_,k=>k []
 |(t,v)::l,u,k=>match Nat.beq t u with
  |true=>By l u k
  |false=>By l u fun l'=>k ((t,v)::l')
theorem mF {α:Type} (l:List (Nat×α)) (u:Nat) (k:List (Nat×α)->Prop):By l u k <-> k (mY l u):=by
 induction l generalizing k with
 |nil=>exact Iff.rfl
 |cons p l ih=>
  obtain⟨t,v⟩:=p
  simp only[By,mY]
  split<;>exact ih _
theorem jV {α:Type} (l:List (Nat×α)) (u id:Nat):aE (mY l u) id=if u=id then none else aE l id:=by
 induction l with
 |nil=>simp[mY,aE]
 |cons p l ih=>
  obtain⟨t,v⟩:=p
  simp only[mY,cH]
  by_cases h:t=u
  ·subst h
   simp only[decide_true,ih,aC]
   by_cases hu:t=id<;>simp[hu]
  ·simp only[h,decide_false,aC,ih]
   by_cases hu:t=id
   ·subst hu
    simp[Ne.symm h]
   ·simp[hu]
def Ha (ek:EK) (fr:List (Nat×SV)):Nat->List (Nat×Operand)->(List ek.ty->Prop)->Prop
 |_,[],k=>k []
 |n,(i,x)::r,k=>match Nat.beq i n,ev fr x with
  |true,some v=>match cellsOf v with
   |some cs=>match ek.ofSym cs with
    |some e=>Ha ek fr (n+1) r fun l=>k (e::l)
    |none=>False
   |none=>False
  |_,_=>False
def sub {α:Type} (xs:List α) (lo n:Nat):List α:=(xs.drop lo).take n
structure Ext (Z:Nat->Prop) (w w':World):Prop where
 os:w'.os=w.os
 tape:w'.tape=w.tape
 output:w'.output=w.output
 size:w.heap.size<=w'.heap.size
 block: ∀b,Z b->w'.heap[b]?=w.heap[b]?
theorem Ext.refl (Z:Nat->Prop) (w:World):Ext Z w w:=⟨rfl,rfl,rfl,Nat.le_refl _,fun _ _=>rfl⟩
theorem Ext.trans {Z Z':Nat->Prop} {w w' w'':World} (h:Ext Z w w') (h':Ext Z' w' w'') (hz: ∀b,Z b->Z' b):Ext Z w w'':=
 ⟨h'.os.trans h.os,h'.tape.trans h.tape,h'.output.trans h.output,Nat.le_trans h.size h'.size,fun b hb=>(h'.block b (hz b hb)).trans (h.block b hb)⟩
theorem Ext.mono {Z Z':Nat->Prop} {w w':World} (h:Ext Z w w') (hz: ∀b,Z' b->Z b):Ext Z' w w':=
 ⟨h.os,h.tape,h.output,h.size,fun b hb=>h.block b (hz b hb)⟩
theorem SO.ok_mono {β γ:Env} {Z Z' fp:Nat->Prop} {w w':World} {oa:Option Addr} {o:SO} {n:Nat} (h:o.ok β Z fp w oa) (hlt:o.lt n)
  (hβ: ∀id,id<n->γ id=β id) (hZ: ∀b,Z b->Z' b) (hw: ∀b,Z b\/fp b->w'.heap[b]?=w.heap[b]?) (hs:w.heap.size<=w'.heap.size) (hz0:Z 0):o.ok γ Z' fp w' oa:=by
 cases o with
 |box T cs=>
  obtain⟨b,h1,h2,h3⟩:=h
  exact⟨b,h1,h2,by rw[hw b (.inr h2),h3,SC.map_den_congr hβ hlt]⟩
 |arr own E k xs sp=>
  cases oa with
  |none=>exact h
  |some a=>
   cases own with
   |true=>
    obtain⟨h1,h2,pre,post,h3,h4,h5⟩:=h
    exact⟨h1,h2,pre,post,by rw[hw _ (.inr h2),h3],h4,h5⟩
   |false=>
    intro hne
    obtain⟨h1,h2,h3,h4⟩:=h hne
    refine⟨h1,hZ _ h2,by omega,fun j v hj=>?_⟩
    have:=h4 j v hj
    obtain⟨b,o,spt⟩:=a
    cases h1
    rw[Addr.add_lit]at this⊢
    simp only[World.cell?]at this⊢
    rw[hw _ (.inl h2)]
    exact this
 |pool E k m=>exact⟨fun a xs sp hl=>by
  obtain⟨h1,h2,pre,post,h3,h4,h5⟩:=h.row a xs sp hl
  exact⟨h1,h2,pre,post,by rw[hw _ (.inr h2),h3],h4,h5⟩,h.one⟩
 |map kk vk es clk=>
  obtain⟨b,h1,h2,h3⟩:=h
  exact⟨b,h1,h2,by rw[hw _ (.inr h2),h3]⟩
 |iter mid since seen last cur=>
  obtain⟨b,r,h1,h2,h3,h4⟩:=h
  exact⟨b,r,h1,h2,(hβ mid hlt).trans h3,by rw[hw _ (.inr h2),h4]⟩
 |gen A=>exact⟨h.2 _ (fun b hb=>hw b (.inr hb)) (hw 0 (.inl hz0)),fun w'' hw' h0=>h.2 w'' (fun b hb=>by rw[hw' b hb,hw b (.inr hb)]) (by rw[h0,hw 0 (.inl hz0)])⟩
section
variable {β:Env} {Z:Nat->Prop} {fp:Nat->Nat->Prop} {s:S} {w:World}
theorem aR.put (hs:aR β Z fp s w) {id:Nat} {o o':SO} (hl:aE s.hp id=some o) {w':World} (hw: ∀b,¬fp id b->w'.heap[b]?=w.heap[b]?) (hsz:w'.heap.size=w.heap.size)
  (ho:o'.ok β Z (fp id) w' (β id)) (hlt:o'.lt s.nx):aR β Z fp ⟨s.fr,upd s.hp id o',s.nx⟩ w':=by
 have hlook: ∀id' o'',aE (upd s.hp id o') id'=some o''->(id=id'/\o''=o')\/(id≠id'/\aE s.hp id'=some o''):=by
  intro id' o'' h
  rw[cJ]at h
  split at h
  ·rename_i e;exact .inl ⟨e,by cases h;rfl⟩
  ·rename_i e;exact .inr ⟨e,h⟩
 refine⟨⟨hs.zlt'.1,fun b hb=>by rw[hsz];exact hs.zlt b hb⟩,?_,?_,?_,?_⟩
 ·intro id' o'' h b hb
  rw[hsz]
  rcases hlook _ _ h with⟨rfl,_⟩|⟨_,h'⟩
  ·exact hs.flt _ _ hl b hb
  ·exact hs.flt _ _ h' b hb
 ·intro i j oi oj hi hj hij b hb
  have: ∀x ox,aE (upd s.hp id o') x=some ox-> ∃oy,aE s.hp x=some oy:=by
   intro x ox hx
   rcases hlook _ _ hx with⟨rfl,_⟩|⟨_,h'⟩
   ·exact⟨_,hl⟩
   ·exact⟨_,h'⟩
  obtain⟨oi',hi'⟩:=this _ _ hi
  obtain⟨oj',hj'⟩:=this _ _ hj
  exact hs.sep i j _ _ hi' hj' hij b hb
 ·intro id' o'' h
  rcases hlook _ _ h with⟨rfl,rfl⟩|⟨hne,h'⟩
  ·exact ho
  ·refine SO.ok_mono (hs.obj _ _ h') (hs.lto _ _ h').2 (fun _ _=>rfl) (fun _ h=>h) ?_ (by omega) hs.zlt'.1
   intro b hb
   refine hw b fun hf=>?_
   rcases hb with hb|hb
   ·exact(hs.flt _ _ hl b hf).2 hb
   ·exact hs.sep id id' _ _ hl h' hne b hf hb
 ·intro id' o'' h
  rcases hlook _ _ h with⟨rfl,rfl⟩|⟨hne,h'⟩
  ·exact⟨(hs.lto _ _ hl).1,hlt⟩
  ·exact hs.lto _ _ h'
theorem aT {o:Obj} {b:Nat} (h:b<w.heap.size):(w.alloc o).heap[b]?=w.heap[b]?:=by
 simp only[World.alloc,Array.getElem?_push]
 rw[if_neg (by omega)]
theorem bA (o:Obj):(w.alloc o).heap[w.heap.size]?=some o:=by
 show(w.heap.push o)[w.heap.size]?=some o
 simp
def Env.add (β:Env) (n:Nat) (x:Option Addr):Env:=fun i=>if i=n then x else β i
theorem Env.add_lt {β:Env} {n:Nat} {x:Option Addr}: ∀id,id<n->β.add n x id=β id:=by
 intro id h
 simp[Env.add];omega
theorem Env.add_at {β:Env} {n:Nat} {x:Option Addr}:β.add n x n=x:=by simp[Env.add]
theorem aR.add (hs:aR β Z fp s w) {o:SO} {w':World} {x:Option Addr} {q:Nat->Prop} (hw: ∀b,b<w.heap.size->w'.heap[b]?=w.heap[b]?) (hsz:w.heap.size<=w'.heap.size)
  (hq: ∀b,q b->w.heap.size<=b/\b<w'.heap.size) (ho:o.ok (β.add s.nx x) Z q w' x) (hlt:o.lt s.nx):
  aR (β.add s.nx x) Z (fun i=>if i=s.nx then q else fp i) ⟨s.fr,(s.nx,o)::s.hp,s.nx+1⟩ w':=by
 have hne: ∀id o',aE s.hp id=some o'->id≠s.nx:=fun id o' h e=>by have:=(hs.lto _ _ h).1;omega
 have hlook: ∀id' o'',aE ((s.nx,o)::s.hp) id'=some o''->(id'=s.nx/\o''=o)\/(id'≠s.nx/\aE s.hp id'=some o''):=by
  intro id' o'' h
  rw[aC]at h
  split at h
  ·rename_i e;exact .inl ⟨e.symm,by cases h;rfl⟩
  ·rename_i e;exact .inr ⟨fun e'=>e e'.symm,h⟩
 refine⟨⟨hs.zlt'.1,fun b hb=>Nat.lt_of_lt_of_le (hs.zlt b hb) hsz⟩,?_,?_,?_,?_⟩
 ·intro id' o'' h b hb
  rcases hlook _ _ h with⟨rfl,rfl⟩|⟨h1,h'⟩
  ·simp only[if_true]at hb
   have:=hq b hb
   exact⟨this.2,fun hz=>by have:=hs.zlt b hz;omega⟩
  ·simp only[if_neg h1]at hb
   have:=hs.flt _ _ h' b hb
   exact⟨by omega,this.2⟩
 ·intro i j oi oj hi hj hij b hb hb'
  rcases hlook _ _ hi with⟨rfl,rfl⟩|⟨h1,h1'⟩<;>rcases hlook _ _ hj with⟨rfl,rfl⟩|⟨h2,h2'⟩
  ·exact hij rfl
  ·simp only[if_true]at hb
   simp only[if_neg h2]at hb'
   have:=hq b hb
   have:=(hs.flt _ _ h2' b hb').1
   omega
  ·simp only[if_true]at hb'
   simp only[if_neg h1]at hb
   have:=hq b hb'
   have:=(hs.flt _ _ h1' b hb).1
   omega
  ·simp only[if_neg h1]at hb
   simp only[if_neg h2]at hb'
   exact hs.sep i j _ _ h1' h2' hij b hb hb'
 ·intro id' o'' h
  rcases hlook _ _ h with⟨rfl,rfl⟩|⟨h1,h'⟩
  ·simp only[if_true,Env.add_at];exact ho
  ·have hl:=hs.lto _ _ h'
   simp only[if_neg h1]
   rw[Env.add_lt id' hl.1]
   refine SO.ok_mono (hs.obj _ _ h') hl.2 Env.add_lt (fun _ h=>h) ?_ hsz hs.zlt'.1
   intro b hb
   refine hw b ?_
   rcases hb with hb|hb
   ·exact hs.zlt b hb
   ·exact(hs.flt _ _ h' b hb).1
 ·intro id' o'' h
  rcases hlook _ _ h with⟨rfl,rfl⟩|⟨h1,h'⟩
  ·exact⟨by show s.nx<s.nx+1;omega,SO.lt_mono (by show s.nx<=s.nx+1;omega) hlt⟩
  ·exact⟨by show id'<s.nx+1;have:=(hs.lto _ _ h').1;omega,SO.lt_mono (by show s.nx<=s.nx+1;omega) (hs.lto _ _ h').2⟩
theorem aR.del (hs:aR β Z fp s w) (id:Nat):aR β Z fp ⟨s.fr,mY s.hp id,s.nx⟩ w:=by
 have hlook: ∀id' o'',aE (mY s.hp id) id'=some o''->aE s.hp id'=some o'':=by
  intro id' o'' h
  rw[jV]at h
  split at h
  ·cases h
  ·exact h
 exact⟨hs.zlt',fun _ _ h=>hs.flt _ _ (hlook _ _ h),fun _ _ _ _ h h'=>hs.sep _ _ _ _ (hlook _ _ h) (hlook _ _ h'),fun _ _ h=>hs.obj _ _ (hlook _ _ h),fun _ _ h=>hs.lto _ _ (hlook _ _ h)⟩
theorem aR.move (hs:aR β Z fp s w) {id:Nat} {o o':SO} (hl:aE s.hp id=some o) {w':World} {x:Option Addr} (hw: ∀b,¬fp id b->w'.heap[b]?=w.heap[b]?) (hsz:w'.heap.size=w.heap.size)
  (ho:o'.ok (β.add s.nx x) Z (fp id) w' x) (hlt:o'.lt s.nx):aR (β.add s.nx x) Z (fun i=>if i=s.nx then fp id else fp i) ⟨s.fr,(s.nx,o')::mY s.hp id,s.nx+1⟩ w':=by
 have hlook: ∀id' o'',aE ((s.nx,o')::mY s.hp id) id'=some o''->(id'=s.nx/\o''=o')\/(id'≠s.nx/\id≠id'/\aE s.hp id'=some o''):=by
  intro id' o'' h
  rw[aC]at h
  split at h
  ·rename_i e;exact .inl ⟨e.symm,by cases h;rfl⟩
  ·rename_i e
   rw[jV]at h
   split at h
   ·cases h
   ·rename_i e2;exact .inr ⟨fun e'=>e e'.symm,e2,h⟩
 refine⟨⟨hs.zlt'.1,fun b hb=>by rw[hsz];exact hs.zlt b hb⟩,?_,?_,?_,?_⟩
 ·intro id' o'' h b hb
  rw[hsz]
  rcases hlook _ _ h with⟨rfl,rfl⟩|⟨h1,h2,h'⟩
  ·simp only[if_true]at hb;exact hs.flt _ _ hl b hb
  ·simp only[if_neg h1]at hb;exact hs.flt _ _ h' b hb
 ·intro i j oi oj hi hj hij b hb hb'
  rcases hlook _ _ hi with⟨rfl,rfl⟩|⟨h1,h1e,h1'⟩<;>rcases hlook _ _ hj with⟨rfl,rfl⟩|⟨h2,h2e,h2'⟩
  ·exact hij rfl
  ·simp only[if_true]at hb
   simp only[if_neg h2]at hb'
   exact hs.sep id j _ _ hl h2' h2e b hb hb'
  ·simp only[if_true]at hb'
   simp only[if_neg h1]at hb
   exact hs.sep id i _ _ hl h1' h1e b hb' hb
  ·simp only[if_neg h1]at hb
   simp only[if_neg h2]at hb'
   exact hs.sep i j _ _ h1' h2' hij b hb hb'
 ·intro id' o'' h
  rcases hlook _ _ h with⟨rfl,rfl⟩|⟨h1,h2,h'⟩
  ·simp only[if_true,Env.add_at];exact ho
  ·have hl':=hs.lto _ _ h'
   simp only[if_neg h1]
   rw[Env.add_lt id' hl'.1]
   refine SO.ok_mono (hs.obj _ _ h') hl'.2 Env.add_lt (fun _ h=>h) ?_ (by omega) hs.zlt'.1
   intro b hb
   refine hw b fun hf=>?_
   rcases hb with hb|hb
   ·exact(hs.flt _ _ hl b hf).2 hb
   ·exact hs.sep id id' _ _ hl h' h2 b hf hb
 ·intro id' o'' h
  rcases hlook _ _ h with⟨rfl,rfl⟩|⟨h1,h2,h'⟩
  ·exact⟨by show s.nx<s.nx+1;omega,SO.lt_mono (by show s.nx<=s.nx+1;omega) hlt⟩
  ·exact⟨by show id'<s.nx+1;have:=(hs.lto _ _ h').1;omega,SO.lt_mono (by show s.nx<=s.nx+1;omega) (hs.lto _ _ h').2⟩
end
def EK.cast:(k k':EK)->List k.ty->Option (List k'.ty)
 | .int,.int,xs=>some xs
 | .bool,.bool,xs=>some xs
 | .arc,.arc,xs=>some xs
 | .trip,.trip,xs=>some xs
 | .duo,.duo,xs=>some xs
 | .str,.str,xs=>some xs
 | .sli,.sli,xs=>some xs
 | .fst,.fst,xs=>some xs
 |_,_,_=>none
theorem EK.cast_spec {k k':EK} {xs:List k.ty} {ys:List k'.ty} (h:EK.cast k k' xs=some ys): ∃e:k=k',ys=e▸xs:=by
 cases k<;>cases k'<;>simp only[EK.cast]at h<;>first|(cases h;exact⟨rfl,rfl⟩)|cases h
def aCq (hp:List (Nat×SO)) (E:Nat) (ek:EK) (x:SV) (k:Option Nat->Nat->Nat->List ek.ty->Prop):Prop:=
 match x with
 | .a (.c (.v (.slice none 0 0)))=>k none 0 0 []
 | .a (.c (.sl id sz lo len cap))=>match aE hp id with
   |some (.arr true E0 k0 xs0 sp)=>match EK.cast k0 ek xs0,Nat.beq sz ek.sz,Nat.beq E0 E with
    |some xs,true,true=>Ob (lo+len<=xs.length/\lo+cap<=xs.length+sp/\len<=cap) (k (some id) len cap (sub xs lo len))
    |_,_,_=>False
   |_=>False
 |_=>False
def aAe:List (Nat×SO)->EK->Option Nat
 | [],_=>none
 |(id,.pool _ k _)::l,ek=>match EK.beq k ek with
  |true=>some id
  |false=>aAe l ek
 |_::l,ek=>aAe l ek
def Wz (hp:List (Nat×SO)) (ek:EK) (x:SV) (k:Nat->List ek.ty->Prop):Prop:=
 match x with
 | .a (.c (.v (.slice none 0 0)))=>k 0 []
 | .a (.c (.sl id sz lo len _))=>match aE hp id with
   |some (.arr _ _ k0 xs0 _)=>match EK.cast k0 ek xs0,Nat.beq sz ek.sz with
    |some xs,true=>Ob (lo+len<=xs.length) (k len (sub xs lo len))
    |_,_=>False
   |_=>False
 | .a (.c (.h y))=>match aAe hp ek with
   |some id=>match aE hp id with
    |some (.pool _ k0 m)=>match EK.cast k0 ek (aM m y.a)with
     |some ys=>Ob (Hd m y) (k y.n ys)
     |none=>False
    |_=>False
   |none=>False
 |_=>False
def aDO (hp:List (Nat×SO)) (id:Option Nat) (k:List (Nat×SO)->Prop):Prop:=match id with
 |none=>k hp
 |some id=>By hp id k
def Ft (fr:List (Nat×SV)) (sz:Nat):Nat->List (Nat×Operand)->(List SC->Prop)->Prop
 |_,[],k=>k []
 |n,(i,x)::r,k=>match Nat.beq i n,ev fr x with
  |true,some v=>match cellsOf v with
   |some cs=>match Nat.beq (dN cs) sz with
    |true=>Ft fr sz (n+1) r fun l=>k (jQ cs l)
    |false=>False
   |none=>False
  |_,_=>False
def lOp (ty:List (Nat×STy)) (op:Op) (s:S) (k:S->SV->Prop):Prop:=s.go fun fr hp nx=>
 match op with
 | .box T x=>match ev fr x with
   |some v=>match cellsOf v with
    |some cs=>k ⟨fr,(nx,.box T cs)::hp,nx+1⟩ (.c (.ptr nx 0))
    |none=>False
   |none=>False
 | .alloc T=>match aE ty T with
   |some d=>k ⟨fr,(nx,.box T d.zero)::hp,nx+1⟩ (.c (.ptr nx 0))
   |none=>False
 | .buildSlice T len parts=>match aE ty T with
   |some d=>match d.sl with
    |some (E,.fst,_)=>match Nat.beq (dN parts.toList) len,Nat.ble (len*4) 16777216 with
     |true,true=>Ft fr 4 0 parts.toList fun cs=>k ⟨fr,(nx,.box E cs)::hp,nx+1⟩ (.c (.sl nx 4 0 len len))
     |_,_=>False
    |some (E,ek,_)=>match Nat.beq (dN parts.toList) len,Nat.ble (len*ek.sz) 16777216 with
     |true,true=>Ha ek fr 0 parts.toList fun xs=>k ⟨fr,(nx,.arr true E ek xs 0)::hp,nx+1⟩ (.c (.sl nx ek.sz 0 len len))
     |_,_=>False
    |none=>False
   |none=>False
 | .makeSlice T l c=>match aE ty T,ev fr l,ev fr c with
   |some d,some (.a (.c (.i l))),some (.a (.c (.i c)))=>match d.sl with
    |some (E,ek,bytes)=>Ob (0<=l/\l<=c/\bytes*c<=281474976710656/\c<=9223372036854775807)
     (k ⟨fr,(nx,.arr true E ek (List.replicate l.toNat ek.dflt) (c.toNat-l.toNat))::hp,nx+1⟩ (.c (.sl nx ek.sz 0 l.toNat c.toNat)))
    |none=>False
   |_,_,_=>False
 | .store T x y=>match aE ty T,ev fr x,ev fr y with
   |some d,some (.a (.c (.ptr id off))),some v=>match aE hp id,cellsOf v with
    |some (.box T' cells),some cs=>match Nat.beq (dN cs) (dN d.zero),Nat.ble (off+dN cs) (dN cells)with
     |true,true=>iZ (wr cells off cs) fun l=>eZ hp id (.box T' l) fun hp'=>k ⟨fr,hp',nx⟩ .u
     |_,_=>False
    |_,_=>False
   |some d,some (.a (.c (.elt id sz i off))),some v=>match aE hp id,cellsOf v with
    |some (.arr true E ek xs sp),some cs=>match Nat.beq (dN cs) (dN d.zero),Nat.beq sz ek.sz with
     |true,true=>Ob (i<xs.length) (match d.agg with
      |true=>match Nat.beq off 0,ek.ofSym cs with
       |true,some e=>eZ hp id (.arr true E ek (xs.set i e) sp) fun hp'=>k ⟨fr,hp',nx⟩ .u
       |_,_=>False
      |false=>match cs with
       | [c]=>match ek.setF (xs.getD i ek.dflt) off c with
         |some e=>eZ hp id (.arr true E ek (xs.set i e) sp) fun hp'=>k ⟨fr,hp',nx⟩ .u
         |none=>False
       |_=>False)
     |_,_=>False
    |_,_=>False
   |_,_,_=>False
 | .call {callee:= .builtin .append,args,argTypes}=>match args.toList,argTypes.toList with
   | [x,y],[T,T']=>match Nat.beq T T',aE ty T,ev fr x,ev fr y with
     |true,some d,some v,some u=>match d.sl with
      |some (E,ek,bytes)=>aCq hp E ek v fun id len _ xs=>Wz hp ek u fun n ys=>aDO hp id fun hp'=>
       Ob ((len+n)*bytes<=140737488355328/\len+n<=9223372036854775807)
        (∀sp:Nat,k ⟨fr,(nx,.arr true E ek (appL xs ys) sp)::hp',nx+1⟩ (.c (.sl nx ek.sz 0 (len+n) (len+n+sp))))
      |none=>False
     |_,_,_,_=>False
   |_,_=>False
 | .call {callee:= .builtin .copy,args,argTypes}=>match args.toList,argTypes.toList with
   | [x,y],[T,_]=>match aE ty T,ev fr x,ev fr y with
     |some d,some (.a (.c (.sl id sz lo len _))),some u=>match d.sl,aE hp id with
      |some (E,ek,_),some (.arr true E0 k0 xs0 sp)=>match EK.cast k0 ek xs0,Nat.beq sz ek.sz,Nat.beq E E0 with
       |some xs,true,true=>Ob (lo+len<=xs.length) (Wz hp ek u fun n ys=>eZ hp id (.arr true E0 ek (cpL xs lo (Nat.min n len) ys) sp) fun hp'=>k ⟨fr,hp',nx⟩ (.i (Nat.min n len:Nat)))
       |_,_,_=>False
      |_,_=>False
     |_,_,_=>False
   |_,_=>False
 |_=>False
where
 appL {α:Type} (xs ys:List α):List α:=xs++ys
 cpL {α:Type} (xs:List α) (lo n:Nat) (ys:List α):List α:=xs.take lo++ys.take n++xs.drop (lo+n)
def Rm:EK->List (Nat×SV)->List (Nat×Operand)->Option (Nat×Nat×Nat)
 | .sli,fr,[(0,x)]=>match ev fr x with
   |some (.a (.c (.sl id _ 0 len cap)))=>some (id,len,cap)
   |_=>none
 |_,_,_=>none
def aDB (ty:List (Nat×STy)) (fr:List (Nat×SV)):Op->Bool
 | .store _ x _=>match ev fr x with
   |some (.a (.c (.pe _ _ _ _ _)))=>true
   |_=>false
 | .call {callee:= .builtin .append,args,.. }=>match args.toList with
   |x::_=>match ev fr x with
    |some (.a (.c (.h _)))=>true
    |_=>false
   |_=>false
 | .buildSlice T _ parts=>match aE ty T with
   |some d=>match d.sl with
    |some (_,ek,_)=>match Rm ek fr parts.toList with
     |some _=>true
     |none=>false
    |none=>false
   |none=>false
 | .makeMap _ _| .insert _ _ _ _| .mapUpdate _ _ _ _| .range _ _| .next _ _=>true
 |_=>false
def aBs (ty:List (Nat×STy)) (T:Nat) (x ix v:Operand) (fr:List (Nat×SV)) (hp:List (Nat×SO)) (nx:Nat) (k:S->SV->Prop):Prop:=
 match aE ty T,ev fr x,ev fr ix,ev fr v with
 |some d,some (.a (.c (.mp id))),some kv,some (.a (.c (.ptr bid 0)))=>match d.mp,aE hp id,cellsOf kv with
  |some (_,kk,_,vk),some (.map kk0 .adr es clk),some cs=>match kk0.ofSym cs,EK.beq kk0 kk,EK.beq .adr vk,eqB (zX kv) kk0.isAgg with
   |some key,true,true,true=>match aE hp bid with
    |some (.box T2 cells)=>match wY hp T2 with
     |some pid=>match aE hp pid with
      |some (.pool E1 k1 m)=>match k1.ofSym cells,Nat.beq T2 E1 with
       |some e,true=> ∀a:Addr,lkA m a=none->(∀b y,lkA m b=some y->b.block≠a.block)->
        By hp bid fun hp1=>eZ hp1 pid (.pool E1 k1 ((a,[e],0)::m)) fun hp2=>eZ hp2 id (.map kk0 .adr (bL es clk key (some a)).1 (bL es clk key (some a)).2) fun hp3=>k ⟨fr,hp3,nx⟩ .u
       |_,_=>False
      |_=>False
     |none=>False
    |_=>False
   |_,_,_,_=>False
  |_,_,_=>False
 |some d,some (.a (.c (.mp id))),some kv,some vv=>match d.mp,aE hp id,cellsOf kv,cellsOf vv with
  |some (_,kk,_,vk),some (.map kk0 vk0 es clk),some cs,some vs=>match kk0.ofSym cs,EK.beq kk0 kk,EK.beq vk0 vk,eqB (zX kv) kk0.isAgg with
   |some key,true,true,true=>match vk0.ofSym vs,eqB (zX vv) vk0.isAgg with
    |some val,true=>eZ hp id (.map kk0 vk0 (bL es clk key val).1 (bL es clk key val).2) fun hp'=>k ⟨fr,hp',nx⟩ .u
    |_,_=>False
   |_,_,_,_=>False
  |_,_,_,_=>False
 |_,_,_,_=>False
def mOp (ty:List (Nat×STy)) (op:Op) (s:S) (k:S->SV->Prop):Prop:=s.go fun fr hp nx=>
 match op with
 | .store T x y=>match aE ty T,ev fr x,ev fr y with
   |some d,some (.a (.c (.pe id sz a i off))),some v=>match aE hp id,cellsOf v with
    |some (.pool E ek m),some cs=>match Nat.beq (dN cs) (dN d.zero),Nat.beq sz ek.sz with
     |true,true=>Ob (i<(aM m a).length) (match d.agg with
      |true=>match Nat.beq off 0,ek.ofSym cs with
       |true,some e=>eZ hp id (.pool E ek (mR m a i e)) fun hp'=>k ⟨fr,hp',nx⟩ .u
       |_,_=>False
      |false=>match cs with
       | [c]=>match ek.setF ((aM m a).getD i ek.dflt) off c with
         |some e=>eZ hp id (.pool E ek (mR m a i e)) fun hp'=>k ⟨fr,hp',nx⟩ .u
         |none=>False
       |_=>False)
     |_,_=>False
    |_,_=>False
   |_,_,_=>False
 | .call {callee:= .builtin .append,args,argTypes}=>match args.toList,argTypes.toList with
   | [x,y],[T,T']=>match Nat.beq T T',aE ty T,ev fr x,ev fr y with
     |true,some d,some (.a (.c (.h h))),some u=>match d.sl with
      |some (E,ek,bytes)=>match wY hp E with
       |some id=>match aE hp id with
        |some (.pool E0 k0 m)=>match EK.beq k0 ek,Nat.beq E0 E with
         |true,true=>Wz hp k0 u fun n ys=>Ob (Hd m h/\(h.n+n)*bytes<=140737488355328/\h.n+n<=9223372036854775807)
          (∀m' h',App m h ys m' h'->eZ hp id (.pool E0 k0 m') fun hp'=>k ⟨fr,hp',nx⟩ (.c (.h h')))
         |_,_=>False
        |_=>False
       |none=>False
      |none=>False
     |_,_,_,_=>False
   |_,_=>False
 | .buildSlice T n parts=>match aE ty T with
   |some d=>match d.sl with
    |some (E,.sli,_)=>match Rm .sli fr parts.toList,Nat.beq n 1 with
     |some (id,len,cap),true=>match aE hp id with
      |some (.arr true E0 k0 xs sp)=>match wY hp E0 with
       |some pid=>match aE hp pid with
        |some (.pool E1 k1 m)=>match EK.cast k0 k1 xs,Nat.beq E0 E1 with
         |some xs',true=>Ob (len=xs.length/\cap<=xs.length+sp) (∀m' y,Frz m xs' sp len cap m' y->
          By hp id fun hp1=>eZ hp1 pid (.pool E1 k1 m') fun hp2=>k ⟨fr,(nx,.arr true E .sli [y] 0)::hp2,nx+1⟩ (.c (.sl nx 1 0 1 1)))
         |_,_=>False
        |_=>False
       |none=>False
      |_=>False
     |_,_=>False
    |_=>False
   |none=>False
 | .makeMap T none=>match aE ty T with
   |some d=>match d.mp with
    |some (_,kk,_,vk)=>k ⟨fr,(nx,.map kk vk [] 0)::hp,nx+1⟩ (.c (.mp nx))
    |none=>False
   |none=>False
 | .insert T x ix v=>aBs ty T x ix v fr hp nx k
 | .mapUpdate T x ix v=>aBs ty T x ix v fr hp nx k
 | .range T x=>match aE ty T,ev fr x with
   |some d,some (.a (.c (.mp id)))=>match d.mp,aE hp id with
    |some _,some (.map _ _ _ clk)=>k ⟨fr,(nx,.iter id clk [] clk 0)::hp,nx+1⟩ (.c (.ptr nx 0))
    |_,_=>False
   |_,_=>False
 | .next x false=>match ev fr x with
   |some (.a (.c (.ptr it 0)))=>match aE hp it with
    |some (.iter mid since seen last _)=>match aE hp mid with
     |some (.map kk vk es clk)=>Ob (Pg es clk/\since=clk/\last=clk) (nX ((∀e∈es,e.2.2∈seen)->k ⟨fr,hp,nx⟩ (.tup [.c (.b false)]))
      (∀(i:Nat) (h:i<es.length),es[i].2.2∉seen->eZ hp it (.iter mid since (seen++[es[i].2.2]) clk i) fun hp'=>pH (kk.symA es[i].1) fun x=>pH (vk.symA es[i].2.1) fun y=>k ⟨fr,hp',nx⟩ (.tup [.c (.b true),x,y])))
     |_=>False
    |_=>False
   |_=>False
 |_=>False
section
variable {P:Program} {ty:List (Nat×STy)} {β:Env} {Z:Nat->Prop} {fp:Nat->Nat->Prop} {s:S} {w:World} {N:NT} {a:Act}
structure aD8 (P:Program) (β:Env) (Z:Nat->Prop) (s:S) (w:World) (a:Act) (o:Oper) (k:S->SV->Prop) (r:Next) (w':World) (v:SV) (β':Env) (fp':Nat->Nat->Prop) (s':S):Prop where
 run:(execOp a.eval o).run P w= .ok r w'
 val:r= .value (v.den β')\/(r= .skip/\v= .u)
 env: ∀id,id<s.nx->β' id=β id
 ext:Ext Z w w'
 fr:s'.fr=s.fr
 nx:s.nx<=s'.nx
 sat:aR β' Z fp' s' w'
 lt:v.lt s'.nx
 go:k s' v
def LOk (P:Program) (β:Env) (Z:Nat->Prop) (s:S) (w:World) (a:Act) (o:Oper) (k:S->SV->Prop):Prop:=
 ∃r w' v β' fp' s',aD8 P β Z s w a o k r w' v β' fp' s'
theorem SC.den_one {n:Nat} {c:SC} (h:c.lt n):(c.den β).oneCell'=true:=by
 cases c<;>first|rfl|exact h
theorem Cr {ek:EK} {x:ek.ty} {off:Nat} {c:SC} {e:ek.ty} (h:ek.setF x off c=some e):ek.cells e=(ek.cells x).set off (c.den β)/\off<ek.sz:=by
 cases ek
 case int=>
  cases off with
  |succ n=>cases h
  |zero=>have:=dI (β:=β) (ek:= .int) (cs:= [c]) h;exact⟨this.symm,by decide⟩
 case bool=>
  cases off with
  |succ n=>cases h
  |zero=>have:=dI (β:=β) (ek:= .bool) (cs:= [c]) h;exact⟨this.symm,by decide⟩
 case str=>
  cases off with
  |succ n=>cases h
  |zero=>have:=dI (β:=β) (ek:= .str) (cs:= [c]) h;exact⟨this.symm,by decide⟩
 case sli=>
  cases off with
  |succ n=>cases h
  |zero=>have:=dI (β:=β) (ek:= .sli) (cs:= [c]) h;exact⟨this.symm,by decide⟩
 case arc=>change Ml x off c=some e at h;unfold Ml at h;split at h<;>cases h<;>exact⟨rfl,by decide⟩
 case trip=>change Fg x off c=some e at h;unfold Fg at h;split at h<;>cases h<;>exact⟨rfl,by decide⟩
 case duo=>change Mk x off c=some e at h;unfold Mk at h;split at h<;>cases h<;>exact⟨rfl,by decide⟩
 case fst=>cases off<;>cases h
 case adr=>
  cases off with
  |succ n=>cases h
  |zero=>have:=dI (β:=β) (ek:= .adr) (cs:= [c]) h;exact⟨this.symm,by decide⟩
 case fnd=>change Mj x off c=some e at h;unfold Mj at h;split at h<;>cases h<;>exact⟨rfl,by decide⟩
theorem Ext.alloc (o:Obj) (hz: ∀b,Z b->b<w.heap.size):Ext Z w (w.alloc o):=
 ⟨rfl,rfl,rfl,by simp,fun b hb=>aT (hz b hb)⟩
theorem aCl (hs:aR β Z fp s w) {o:Oper} {k:S->SV->Prop} {T:Nat} {cs:List SC} (hrun:(execOp a.eval o).run P w= .ok (.value (.pointer (some ⟨w.heap.size,0,none⟩))) (w.alloc (.cells (cs.map (SC.den β)).toArray T (0,0))))
  (hlt: ∀c∈cs,SC.lt s.nx c) (h:k ⟨s.fr,(s.nx,.box T cs)::s.hp,s.nx+1⟩ (.c (.ptr s.nx 0))):LOk P β Z s w a o k:=by
 refine⟨_,_,.c (.ptr s.nx 0),β.add s.nx (some ⟨w.heap.size,0,none⟩),_,⟨s.fr,(s.nx,.box T cs)::s.hp,s.nx+1⟩,hrun,.inl ?_,Env.add_lt,Ext.alloc _ hs.zlt,rfl,Nat.le_succ _,hs.add (o:= .box T cs) (q:=fun b=>b=w.heap.size) ?_ ?_ ?_ ?_ hlt,?_,h⟩
 ·simp[SV.den,SA.den,SC.den,Env.add_at,Addr.add_lit]
 ·exact fun b hb=>aT hb
 ·simp
 ·intro b hb;subst hb;simp
 ·exact⟨w.heap.size,rfl,rfl,by rw[bA,SC.map_den_congr Env.add_lt hlt]⟩
 ·show s.nx<s.nx+1;omega
theorem aDH (hs:aR β Z fp s w) (hf:cQ β s N a) {k:S->SV->Prop} {dst:Option Nat} {T:TypeId} {x:Operand} {type:TypeId} {pos:String}
  {after:Array Edge} {guard:Option (Nat×Bool)} (h:lOp ty (.box T x) s k):LOk P β Z s w a ⟨dst,.box T x,type,pos,after,guard⟩ k:=by
 simp only[lOp,S.go_eq]at h
 split at h<;>try exact h.elim
 rename_i v hx
 split at h<;>try exact h.elim
 rename_i cs hcs
 obtain⟨he,hlt⟩:=aI hf hx
 obtain⟨hc,hcl⟩:=kV (β:=β) hcs hlt
 refine aCl hs (T:=T) (cs:=cs) ?_ hcl h
 simp[execOp,Instr.box,newVar,newRow,he,hc]
theorem aBB (hty:cZ P ty) (hs:aR β Z fp s w) {k:S->SV->Prop} {dst:Option Nat} {T:TypeId} {type:TypeId} {pos:String}
  {after:Array Edge} {guard:Option (Nat×Bool)} (h:lOp ty (.alloc T) s k):LOk P β Z s w a ⟨dst,.alloc T,type,pos,after,guard⟩ k:=by
 simp only[lOp,S.go_eq]at h
 split at h<;>try exact h.elim
 rename_i d hd
 have ht:=hty T d hd
 refine aCl hs (T:=T) (cs:=d.zero) ?_ (fun c hc=>SC.lt_mono (Nat.zero_le _) (ht.zlt c hc)) h
 have hz0:d.zero.map (SC.den fun _=>none)=d.zero.map (SC.den β):=SC.map_den_congr (n:=0) (fun id h=>absurd h (by omega)) ht.zlt
 have hc:d.zv.cells=(d.zero.map (SC.den β)).toArray:=by
  unfold STy.zv
  cases hag:d.agg with
  |true=>simp only[Value.cells,hz0]
  |false=>
   obtain⟨z,hz⟩:=ht.one hag
   rw[hz]at hz0⊢
   simp only[List.map_cons,List.map_nil,List.cons.injEq,and_true]at hz0
   have h1:(z.den fun _=>none).oneCell'=true:=SC.den_one (ht.zlt z (by rw[hz];simp))
   simp only[List.map_cons,List.map_nil,<-hz0]
   generalize (z.den fun _=>none)=y at*
   cases y<;>first|rfl|(simp[Value.oneCell']at h1)
 simp[execOp,Instr.alloc,newVar,newRow,ht.zero,hc]
theorem uE (hf:cQ β s N a) (ek:EK): ∀(parts:List (Nat×Operand)) (n:Nat) (k:List ek.ty->Prop),Ha ek s.fr n parts k->
  ∃xs,k xs/\xs.length=parts.length/\ ∀z:List Value,z.length=(n+parts.length)*ek.sz->
   Instr.fill (fun i=>some (i*ek.sz,ek.sz)) z.toArray (parts.map fun p=>(p.1,a.eval p.2))=some (z.take (n*ek.sz)++aH ek xs).toArray
 | [],n,k,h=>⟨[],h,rfl,fun z hz=>by
  simp only[List.length_nil,Nat.add_zero]at hz
  simp only[List.map_nil,Instr.fill,aH,List.flatMap_nil,List.append_nil]
  rw[List.take_of_length_le (by omega)]⟩
 |(i,x)::r,n,k,h=>by
  simp only[Ha]at h
  split at h<;>try exact h.elim
  rename_i v hi hx
  split at h<;>try exact h.elim
  rename_i cs hcs
  split at h<;>try exact h.elim
  rename_i e he
  rw[cH,decide_eq_true_eq]at hi
  subst hi
  obtain⟨hev,hlt⟩:=aI hf hx
  obtain⟨hc,hcl⟩:=kV (β:=β) hcs hlt
  rw[dI he]at hc
  obtain⟨xs,hk,hlen,hfill⟩:=uE hf ek r (i+1) _ h
  refine⟨e::xs,hk,by simp[hlen],fun z hz=>?_⟩
  simp only[List.length_cons]at hz
  have hsz:(ek.cells e).length=ek.sz:=EK.cells_length ek e
  have hle:i*ek.sz+ek.sz<=z.length:=by
   rw[hz,show i*ek.sz+ek.sz=(i+1)*ek.sz by rw[Nat.succ_mul]]
   exact Nat.mul_le_mul_right _ (by omega)
  simp only[List.map_cons,Instr.fill,hev,hc]
  rw[if_neg (by simp[hsz];omega)]
  have:=qH (i*ek.sz) (ek.cells e) 0 z.toArray (by simp[hsz];omega)
  simp only[Nat.add_zero]at this
  rw[hsz]at this
  have e1:Array.foldl (fun(cs:Array Value) (x:Value×Nat)=>cs.setIfInBounds (i*ek.sz+x.2) x.1) z.toArray (ek.cells e).toArray.zipIdx=
    (z.take (i*ek.sz)++ek.cells e++z.drop (i*ek.sz+ek.sz)).toArray:=by
   apply Array.ext'
   rw[<-Array.foldl_toList];simp only[Array.toList_zipIdx];exact this
  rw[e1,hfill _ (by
   simp only[List.length_append,List.length_take,List.length_drop,hsz,Nat.min_eq_left (show i*ek.sz<=z.length by omega)]
   rw[show i+1+r.length=i+(r.length+1) by omega,<-hz]
   omega)]
  congr 2
  rw[List.take_append_of_le_length (by simp only[List.length_append,List.length_take,hsz,Nat.min_eq_left (show i*ek.sz<=z.length by omega),Nat.succ_mul];omega),
   List.take_of_length_le (by simp only[List.length_append,List.length_take,hsz,Nat.min_eq_left (show i*ek.sz<=z.length by omega),Nat.succ_mul];omega)]
  simp[aH]
end
section
variable {P:Program} {ty:List (Nat×STy)} {β:Env} {Z:Nat->Prop} {fp:Nat->Nat->Prop} {s:S} {w:World} {N:NT} {a:Act}
theorem Dr (hs:aR β Z fp s w) {o:Oper} {k:S->SV->Prop} {E:Nat} {ek:EK} {xs:List ek.ty} {sp n cap:Nat} {post:List Value} {w':World}
  (hrun:(execOp a.eval o).run P w= .ok (.value (.slice (some ⟨w.heap.size,0,none⟩) n cap)) w')
  (hw: ∀b,b<w.heap.size->w'.heap[b]?=w.heap[b]?) (hsz:w.heap.size<w'.heap.size) (hos:w'.os=w.os) (htp:w'.tape=w.tape) (hout:w'.output=w.output)
  (hh:w'.heap[w.heap.size]?=some (.cells (aH ek xs++post).toArray E (0,0))) (hpost:post.length=sp*ek.sz)
  (h:k ⟨s.fr,(s.nx,.arr true E ek xs sp)::s.hp,s.nx+1⟩ (.c (.sl s.nx ek.sz 0 n cap))):LOk P β Z s w a o k:=by
 refine⟨_,_,.c (.sl s.nx ek.sz 0 n cap),β.add s.nx (some ⟨w.heap.size,0,none⟩),_,⟨s.fr,(s.nx,.arr true E ek xs sp)::s.hp,s.nx+1⟩,hrun,.inl ?_,Env.add_lt,
  ⟨hos,htp,hout,by omega,fun b hb=>hw b (hs.zlt b hb)⟩,rfl,Nat.le_succ _,
  hs.add (o:= .arr true E ek xs sp) (q:=fun b=>b=w.heap.size) hw (by omega) ?_ ?_ trivial,?_,h⟩
 ·simp[SV.den,SA.den,SC.den,Env.add_at,Addr.add_lit]
 ·intro b hb;subst hb;omega
 ·exact⟨rfl,rfl,[],post,by simpa using hh,rfl,Nat.le_of_eq hpost.symm⟩
 ·show s.nx<s.nx+1;omega
theorem tJ (hf:cQ β s N a) (sz:Nat): ∀(parts:List (Nat×Operand)) (n:Nat) (k:List SC->Prop),Ft s.fr sz n parts k->
  ∃cs,k cs/\cs.length=parts.length*sz/\(∀c∈cs,SC.lt s.nx c)/\ ∀z:List Value,z.length=(n+parts.length)*sz->
   Instr.fill (fun i=>some (i*sz,sz)) z.toArray (parts.map fun p=>(p.1,a.eval p.2))=some (z.take (n*sz)++cs.map (SC.den β)).toArray
 | [],n,k,h=>⟨[],h,by simp,by simp,fun z hz=>by
  simp only[List.length_nil,Nat.add_zero]at hz
  simp only[List.map_nil,Instr.fill,List.append_nil]
  rw[List.take_of_length_le (by omega)]⟩
 |(i,x)::r,n,k,h=>by
  simp only[Ft]at h
  split at h<;>try exact h.elim
  rename_i v hi hx
  split at h<;>try exact h.elim
  rename_i cs hcs
  split at h<;>try exact h.elim
  rename_i hln
  rw[cH,decide_eq_true_eq]at hi
  rw[cH,bD,decide_eq_true_eq]at hln
  subst hi
  obtain⟨hev,hlt⟩:=aI hf hx
  obtain⟨hc,hcl⟩:=kV (β:=β) hcs hlt
  obtain⟨ys,hk,hlen,hyl,hfill⟩:=tJ hf sz r (i+1) _ h
  rw[nD]at hk
  refine⟨cs++ys,hk,by simp only[List.length_append,List.length_cons,hlen,hln,Nat.succ_mul];omega,?_,fun z hz=>?_⟩
  ·intro c hc
   rcases List.mem_append.1 hc with hc|hc
   ·exact hcl c hc
   ·exact hyl c hc
  simp only[List.length_cons]at hz
  have hsz:(cs.map (SC.den β)).length=sz:=by simp[hln]
  have hle:i*sz+sz<=z.length:=by
   rw[hz,show i*sz+sz=(i+1)*sz by rw[Nat.succ_mul]]
   exact Nat.mul_le_mul_right _ (by omega)
  simp only[List.map_cons,Instr.fill,hev,hc]
  rw[if_neg (by simp[hln];omega)]
  have:=qH (i*sz) (cs.map (SC.den β)) 0 z.toArray (by simp[hln];omega)
  simp only[Nat.add_zero]at this
  rw[hsz]at this
  have e1:Array.foldl (fun(cs:Array Value) (x:Value×Nat)=>cs.setIfInBounds (i*sz+x.2) x.1) z.toArray (cs.map (SC.den β)).toArray.zipIdx=
    (z.take (i*sz)++cs.map (SC.den β)++z.drop (i*sz+sz)).toArray:=by
   apply Array.ext'
   rw[<-Array.foldl_toList];simp only[Array.toList_zipIdx];exact this
  rw[e1,hfill _ (by
   simp only[List.length_append,List.length_take,List.length_drop,hsz,Nat.min_eq_left (show i*sz<=z.length by omega)]
   rw[show i+1+r.length=i+(r.length+1) by omega,<-hz]
   omega)]
  congr 2
  rw[List.take_append_of_le_length (by simp only[List.length_append,List.length_take,hsz,Nat.min_eq_left (show i*sz<=z.length by omega),Nat.succ_mul];omega),
   List.take_of_length_le (by simp only[List.length_append,List.length_take,hsz,Nat.min_eq_left (show i*sz<=z.length by omega),Nat.succ_mul];omega)]
  simp
theorem oP {T E len:Nat} {ek:EK} (hu:P.underlying T=some (.slice E)) (hE: ∀w,(sizeOf E).run P w= .ok ek.sz w) {i:TypeInfo} {z:Value} (hi:P.info? E=some i) (hz:i.zero=some z) (hzsz:z.cells.size=ek.sz) (hbig:len*ek.sz<=16777216)
  {dst:Option Nat} {parts:Array (Nat×Operand)} {type:TypeId} {pos:String} {after:Array Edge} {guard:Option (Nat×Bool)} {vs:List Value}
  (hfill: ∀z:List Value,z.length=len*ek.sz->Instr.fill (fun i=>some (i*ek.sz,ek.sz)) z.toArray (parts.toList.map fun p=>(p.1,a.eval p.2))=some vs.toArray):
  (execOp a.eval ⟨dst,.buildSlice T len parts,type,pos,after,guard⟩).run P w= .ok (.value (.slice (some ⟨w.heap.size,0,none⟩) len len)) (w.alloc (.cells vs.toArray E)):=by
 have e0:=hfill ((List.range (len*ek.sz)).map fun i=>z.cells[i % z.cells.size]!) (by simp)
 by_cases hn:len*ek.sz=0
 ·have e0':Instr.fill (fun i=>some (i*ek.sz,ek.sz)) (#[]:Array Value) (parts.toList.map fun p=>(p.1,a.eval p.2))=some vs.toArray:=by
   rw[hn]at e0;simpa using e0
  simp only[execOp,Instr.buildSlice,Sem.run_bind,run_underlying hu,Result.andThen_ok,hE]
  rw[if_neg (by omega)]
  simp[hn,e0',newRow,Array.range_zero']
 ·simp only[execOp,Instr.buildSlice,Sem.run_bind,run_underlying hu,Result.andThen_ok,hE]
  rw[if_neg (by omega)]
  have e3:((Array.range (len*ek.sz)).map fun i=>z.cells[i % z.cells.size]!)=((List.range (len*ek.sz)).map fun i=>z.cells[i % z.cells.size]!).toArray:=by
   apply Array.ext';simp
  simp only[Sem.run_bind,if_neg hn,zeroValue,typeInfo,hi,hz,Sem.run_pure,run_program,Result.andThen_ok]
  rw[e3]
  simp[e0,newRow]
theorem Gl (hty:cZ P ty) (hs:aR β Z fp s w) (hf:cQ β s N a) {k:S->SV->Prop} {dst:Option Nat} {T:TypeId} {len:Nat} {parts:Array (Nat×Operand)} {type:TypeId} {pos:String}
  {after:Array Edge} {guard:Option (Nat×Bool)} (h:lOp ty (.buildSlice T len parts) s k):LOk P β Z s w a ⟨dst,.buildSlice T len parts,type,pos,after,guard⟩ k:=by
 simp only[lOp,S.go_eq]at h
 split at h<;>try exact h.elim
 rename_i d hd
 split at h<;>try exact h.elim
 ·rename_i E bytes hsl
  split at h<;>try exact h.elim
  rename_i hlen hbig
  rw[cH,bD,decide_eq_true_eq]at hlen
  rw[Bw,decide_eq_true_eq]at hbig
  obtain⟨hu,hE,i,z,hi,hz,hisz,_,hzc⟩:=(hty T d hd).sl _ _ _ hsl
  obtain⟨cs,hk,hcl,hclt,hfill⟩:=tJ (β:=β) hf 4 _ _ _ h
  have hzsz:z.cells.size=EK.fst.sz:=by rw[<-Array.length_toList,hzc,EK.cells_length]
  have hrun:=oP (P:=P) (w:=w) (a:=a) (len:=len) (ek:= .fst) hu hE hi hz hzsz hbig (dst:=dst) (parts:=parts) (type:=type) (pos:=pos) (after:=after) (guard:=guard) (vs:=cs.map (SC.den β))
   (fun z hz=>by have:=hfill z (by rw[hz,hlen];simp[EK.sz]);simpa[EK.sz]using this)
  refine⟨_,_,.c (.sl s.nx 4 0 len len),β.add s.nx (some ⟨w.heap.size,0,none⟩),_,⟨s.fr,(s.nx,.box E cs)::s.hp,s.nx+1⟩,hrun,.inl ?_,Env.add_lt,Ext.alloc _ hs.zlt,rfl,Nat.le_succ _,hs.add (o:= .box E cs) (q:=fun b=>b=w.heap.size) ?_ ?_ ?_ ?_ hclt,?_,hk⟩
  ·simp[SV.den,SA.den,SC.den,Env.add_at,Addr.add_lit]
  ·exact fun b hb=>aT hb
  ·simp
  ·intro b hb;subst hb;simp
  ·exact⟨w.heap.size,rfl,rfl,by rw[bA,SC.map_den_congr Env.add_lt hclt]⟩
  ·show s.nx<s.nx+1;omega
 ·rename_i E ek bytes hne hsl
  split at h<;>try exact h.elim
  rename_i hlen hbig
  rw[cH,bD,decide_eq_true_eq]at hlen
  rw[Bw,decide_eq_true_eq]at hbig
  obtain⟨hu,hE,i,z,hi,hz,hisz,_,hzc⟩:=(hty T d hd).sl _ _ _ hsl
  obtain⟨xs,hk,hxl,hfill⟩:=uE (β:=β) hf ek _ _ _ h
  have hzsz:z.cells.size=ek.sz:=by rw[<-Array.length_toList,hzc,EK.cells_length]
  have hrun:=oP (P:=P) (w:=w) (a:=a) (len:=len) (ek:=ek) hu hE hi hz hzsz hbig (dst:=dst) (parts:=parts) (type:=type) (pos:=pos) (after:=after) (guard:=guard) (vs:=aH ek xs++[])
   (fun z hz=>by have:=hfill z (by rw[hz,<-hlen,Nat.zero_add]);simpa using this)
  exact Dr hs (xs:=xs) (sp:=0) (post:= []) hrun (fun b hb=>aT hb) (by simp) rfl rfl rfl (bA _) (by simp) hk
theorem Dp (ek:EK) (z:Array Value) (hz:z.toList=ek.cells ek.dflt) (n:Nat):(madeCells z (n*ek.sz)).toList=aH ek (List.replicate n ek.dflt):=by
 have hzs:z.size=ek.sz:=by rw[<-Array.length_toList,hz,EK.cells_length]
 apply List.ext_getElem?
 intro j
 have hpos:0<ek.sz:=by cases ek<;>decide
 by_cases hj:j<n*ek.sz
 ·have hq:j / ek.sz<n:=(Nat.div_lt_iff_lt_mul hpos).2 hj
  have hr:j % ek.sz<ek.sz:=Nat.mod_lt _ hpos
  have h1:=pI ek (List.replicate n ek.dflt) (j / ek.sz) (j % ek.sz) (by simpa using hq) hr
  rw[Nat.mul_comm,Nat.div_add_mod]at h1
  rw[h1]
  simp only[madeCells,Array.toList_map,Array.toList_range,List.getElem?_map,List.getElem?_range hj,Option.map_some,hzs]
  have hd:(List.replicate n ek.dflt).getD (j / ek.sz) ek.dflt=ek.dflt:=by
   simp[List.getD,hq]
  rw[hd,<-hz]
  simp[hzs,hr]
 ·rw[List.getElem?_eq_none (by rw[Array.length_toList,size_madeCells];omega),List.getElem?_eq_none (by rw[aP];simp;omega)]
theorem Jm (hty:cZ P ty) (hs:aR β Z fp s w) (hf:cQ β s N a) {k:S->SV->Prop} {dst:Option Nat} {T:TypeId} {l c:Operand} {type:TypeId} {pos:String}
  {after:Array Edge} {guard:Option (Nat×Bool)} (h:lOp ty (.makeSlice T l c) s k):LOk P β Z s w a ⟨dst,.makeSlice T l c,type,pos,after,guard⟩ k:=by
 simp only[lOp,S.go_eq]at h
 split at h<;>try exact h.elim
 rename_i d l' c' hd hl hc
 split at h<;>try exact h.elim
 rename_i E ek bytes hsl
 obtain⟨⟨h0,h1,h2,h3⟩,h⟩:=h
 obtain⟨hu,hE,i,z,hi,hz,hisz,hib,hzc⟩:=(hty T d hd).sl _ _ _ hsl
 obtain⟨hel,_⟩:=aI hf hl
 obtain⟨hec,_⟩:=aI hf hc
 have hr:=run_make (P:=P) w T E i z hu hi hz .i64 .i64 l' c' h0 h1 (by rw[hib];exact h2) h3
 rw[hisz]at hr
 have hm:(madeCells z.cells (c'.toNat*ek.sz))=(aH ek (List.replicate l'.toNat ek.dflt)++aH ek (List.replicate (c'.toNat-l'.toNat) ek.dflt)).toArray:=by
  apply Array.ext'
  rw[Dp ek z.cells hzc]
  have:List.replicate c'.toNat ek.dflt=List.replicate l'.toNat ek.dflt++List.replicate (c'.toNat-l'.toNat) ek.dflt:=by
   rw[List.replicate_append_replicate];congr 1;omega
  rw[this]
  show aH ek _=aH ek _++aH ek _
  unfold aH
  rw[List.flatMap_append]
 refine Dr hs (xs:=List.replicate l'.toNat ek.dflt) (sp:=c'.toNat-l'.toNat) (post:=aH ek (List.replicate (c'.toNat-l'.toNat) ek.dflt)) (w':=w.alloc (.cells (madeCells z.cells (c'.toNat*ek.sz)) E))
  ?_ (fun b hb=>aT hb) (by simp) rfl rfl rfl ?_ (by rw[aP];simp) h
 ·simp only[execOp,hel,hec,SV.den,SA.den,SC.den,Sem.run_bind,hr,Result.andThen_ok,Sem.run_pure]
 ·rw[bA,hm]
theorem oK {T:Nat} {d:STy} (hty:bI P T d) {b off E:Nat} {cur:List Value} {vs:List Value} (hh:w.heap[b]?=some (.cells cur.toArray E (0,0))) (hl:vs.length=d.zero.length) (hfit:off+vs.length<=cur.length)
  (h1: ∀v∈vs,v.oneCell'=true) {v:Value} (hv:v.cells=vs.toArray):
  (Instr.storeAt T (.pointer (some ⟨b,off,none⟩)) v).run P w= .ok () (w.setRow b (cur.take off++vs++cur.drop (off+vs.length)).toArray):=by
 have:=run_storeCells_at P b off E vs 0 cur.toArray w hh (by simpa using hfit) h1
 simp only[Nat.add_zero]at this
 simp only[Instr.storeAt,Instr.sureAddr,storeVar,pure_bind,Sem.run_bind,hty.size,Result.andThen_ok,hv]
 simp[hl,this]
end
theorem fQ (k:EK) (x:k.ty) (xs:List k.ty):aH k (x::xs)=k.cells x++aH k xs:=by simp[aH]
theorem bB (k:EK) (xs ys:List k.ty):aH k (xs++ys)=aH k xs++aH k ys:=by simp[aH]
theorem Ac (k:EK) (e:k.ty): ∀(xs:List k.ty) (i:Nat),i<xs.length->aH k (xs.set i e)=(aH k xs).take (i*k.sz)++k.cells e++(aH k xs).drop (i*k.sz+k.sz)
 | [],i,h=>by simp at h
 |x::xs,0,_=>by
  have:=EK.cells_length k x
  rw[List.set_cons_zero,fQ,fQ,Nat.zero_mul,Nat.zero_add,List.take_zero,List.nil_append,List.drop_append_of_le_length (by omega),List.drop_of_length_le (by omega),List.nil_append]
 |x::xs,i+1,h=>by
  have hl:=EK.cells_length k x
  have e1:(i+1)*k.sz=(k.cells x).length+i*k.sz:=by rw[Nat.succ_mul];omega
  have e2:(k.cells x).length+i*k.sz+k.sz=(k.cells x).length+(i*k.sz+k.sz):=by omega
  rw[List.set_cons_succ,fQ,fQ,Ac k e xs i (by simpa using h),e1,e2,List.take_length_add_append,List.drop_length_add_append]
  simp[List.append_assoc]
theorem vX (k:EK) (e:k.ty) (off:Nat) (v:Value) (ho:off<k.sz): ∀(xs:List k.ty) (i:Nat),i<xs.length->k.cells e=(k.cells (xs.getD i k.dflt)).set off v->
  aH k (xs.set i e)=(aH k xs).set (i*k.sz+off) v
 | [],i,h,_=>by simp at h
 |x::xs,0,_,he=>by
  have hl:=EK.cells_length k x
  rw[List.set_cons_zero,fQ,fQ,Nat.zero_mul,Nat.zero_add,he,List.getD_cons_zero,List.set_append_left _ _ (by omega)]
 |x::xs,i+1,h,he=>by
  have hl:=EK.cells_length k x
  rw[List.getD_cons_succ]at he
  rw[List.set_cons_succ,fQ,fQ,vX k e off v ho xs i (by simpa using h) he,Nat.succ_mul,List.set_append_right _ _ (by omega)]
  congr 2;omega
theorem qW {α:Type} (l:List α) (n:Nat) (v:α) (h:n<l.length):l.set n v=l.take n++[v]++l.drop (n+1):=by
 rw[List.set_eq_take_append_cons_drop,if_pos h];simp
theorem oB {α:Type} (p l q:List α) (n m:Nat) (h:n=p.length+m) (hm:m<=l.length):(p++l++q).take n=p++l.take m:=by
 subst h
 rw[List.append_assoc,List.take_length_add_append,List.take_append_of_le_length hm]
theorem uF {α:Type} (p l q:List α) (n m:Nat) (h:n=p.length+m) (hm:m<=l.length):(p++l++q).drop n=l.drop m++q:=by
 subst h
 rw[List.append_assoc,List.drop_length_add_append,List.drop_append_of_le_length hm]
section
variable {P:Program} {ty:List (Nat×STy)} {β:Env} {Z:Nat->Prop} {fp:Nat->Nat->Prop} {s:S} {w:World} {N:NT} {a:Act}
theorem Ext.setRow {g:Nat} (cs:Array Value) (hz: ¬Z g):Ext Z w (w.setRow g cs):=
 ⟨rfl,rfl,rfl,by simp,fun b hb=>setRow_other w g b cs (fun e=>hz (e▸hb))⟩
theorem Zm (hs:aR β Z fp s w) {o:Oper} {k:S->SV->Prop} {id:Nat} {ob ob':SO} {g:Nat} {cs:Array Value} (hl:aE s.hp id=some ob) (hg:fp id g)
  (hrun:(execOp a.eval o).run P w= .ok .skip (w.setRow g cs)) (hok:ob'.ok β Z (fp id) (w.setRow g cs) (β id)) (hlt:ob'.lt s.nx)
  (h:k ⟨s.fr,upd s.hp id ob',s.nx⟩ .u):LOk P β Z s w a o k:=
 ⟨_,_,.u,β,fp,⟨s.fr,upd s.hp id ob',s.nx⟩,hrun,.inr ⟨rfl,rfl⟩,fun _ _=>rfl,Ext.setRow _ (hs.flt _ _ hl g hg).2,rfl,Nat.le_refl _,
  hs.put hl (fun b hb=>setRow_other w g b cs (fun e=>hb (e▸hg))) (by simp) hok hlt,(by intro c hc;cases hc),h⟩
theorem aBA (hty:cZ P ty) (hs:aR β Z fp s w) (hf:cQ β s N a) {k:S->SV->Prop} {dst:Option Nat} {T:TypeId} {x y:Operand} {type:TypeId} {pos:String}
  {after:Array Edge} {guard:Option (Nat×Bool)} (h:lOp ty (.store T x y) s k):LOk P β Z s w a ⟨dst,.store T x y,type,pos,after,guard⟩ k:=by
 simp only[lOp,S.go_eq]at h
 split at h<;>try exact h.elim
 ·rename_i d id off v hd hx hy
  split at h<;>try exact h.elim
  rename_i T' cells cs hl hcs
  split at h<;>try exact h.elim
  rename_i hlen hfit
  rw[cH,bD,bD,decide_eq_true_eq]at hlen
  rw[Bw,bD,bD,decide_eq_true_eq]at hfit
  rw[dY,aX]at h
  obtain⟨hex,_⟩:=aI hf hx
  obtain⟨hey,hlt⟩:=aI hf hy
  obtain⟨hc,hcl⟩:=kV (β:=β) hcs hlt
  obtain⟨b,hb,hfp,hh⟩:=wF hs hl
  have hr:=oK (P:=P) (w:=w) (hty T d hd) (b:=b) (off:=off) (cur:=cells.map (SC.den β)) (vs:=cs.map (SC.den β)) hh (by simpa using hlen) (by simpa using hfit)
   (by intro v hv;obtain⟨c,hc',rfl⟩:=List.mem_map.1 hv;exact SC.den_one (hcl c hc')) hc
  have hex':a.eval x= .pointer (some ⟨b,off,none⟩):=by rw[hex];simp[SV.den,SA.den,SC.den,hb,Addr.add_lit]
  refine Zm hs hl hfp (cs:=_) (by
   simp only[execOp,hex',hey,Sem.run_bind,hr,Result.andThen_ok,Sem.run_pure]
   rfl) ?_ ?_ h
  ·refine⟨b,hb,hfp,?_⟩
   rw[setRow_heap w b _ _ T' _ hh,Pj]
   simp
  ·intro c hc'
   rw[Pj]at hc'
   have hol: ∀c∈cells,SC.lt s.nx c:=(hs.lto id _ hl).2
   simp only[List.mem_append]at hc'
   rcases hc' with(hc'|hc')|hc'
   ·exact hol c (List.mem_of_mem_take hc')
   ·exact hcl c hc'
   ·exact hol c (List.mem_of_mem_drop hc')
 ·rename_i d id sz i off v hd hx hy
  split at h<;>try exact h.elim
  rename_i E ek xs sp cs hl hcs
  split at h<;>try exact h.elim
  rename_i hlen hsz
  rw[cH,bD,bD,decide_eq_true_eq]at hlen
  rw[cH,decide_eq_true_eq]at hsz
  subst hsz
  obtain⟨hi,h⟩:=h
  obtain⟨hex,_⟩:=aI hf hx
  obtain⟨hey,hlt⟩:=aI hf hy
  obtain⟨hc,hcl⟩:=kV (β:=β) hcs hlt
  have hok:=hs.obj _ _ hl
  cases hb:β id with
  |none=>
   rw[hb]at hok
   have:xs=[]:=hok.1
   subst this
   simp at hi
  |some x'=>
   rw[hb]at hok
   obtain⟨hsp,hfp,pre,post,hh,hpre,hpost⟩:=hok
   have hil:i*ek.sz+ek.sz<=(aH ek xs).length:=by
    rw[aP,<-Nat.succ_mul];exact Nat.mul_le_mul_right _ hi
   have hrun: ∀(vs:List Value),cs.map (SC.den β)=vs->i*ek.sz+off+vs.length<=(aH ek xs).length->
     (execOp a.eval ⟨dst,.store T x y,type,pos,after,guard⟩).run P w=
      .ok .skip (w.setRow x'.block (pre++((aH ek xs).take (i*ek.sz+off)++vs++(aH ek xs).drop (i*ek.sz+off+vs.length))++post).toArray):=by
    intro vs hvs hfit
    have hr:=oK (P:=P) (w:=w) (hty T d hd) (b:=x'.block) (off:=x'.off+(i*ek.sz+off)) (cur:=pre++aH ek xs++post) (vs:=vs) hh (by rw[<-hvs];simpa using hlen)
     (by simp only[List.length_append];omega)
     (by intro v hv;rw[<-hvs]at hv;obtain⟨c,hc',rfl⟩:=List.mem_map.1 hv;exact SC.den_one (hcl c hc')) (by rw[<-hvs];exact hc)
    have hex':a.eval x= .pointer (some ⟨x'.block,x'.off+(i*ek.sz+off),none⟩):=by rw[hex];simp[SV.den,SA.den,SC.den,hb,eR hsp]
    simp only[execOp,hex',hey,Sem.run_bind,hr,Result.andThen_ok,Sem.run_pure]
    rw[oB pre (aH ek xs) post _ (i*ek.sz+off) (by omega) (by omega),uF pre (aH ek xs) post _ (i*ek.sz+off+vs.length) (by omega) (by omega)]
    simp[List.append_assoc]
   have fin: ∀(vs:List Value) (e:ek.ty),cs.map (SC.den β)=vs->i*ek.sz+off+vs.length<=(aH ek xs).length->
     aH ek (xs.set i e)=(aH ek xs).take (i*ek.sz+off)++vs++(aH ek xs).drop (i*ek.sz+off+vs.length)->
     k ⟨s.fr,upd s.hp id (.arr true E ek (xs.set i e) sp),s.nx⟩ .u->LOk P β Z s w a ⟨dst,.store T x y,type,pos,after,guard⟩ k:=by
    intro vs e hvs hfit hfl hk
    refine Zm (ob':= .arr true E ek (xs.set i e) sp) hs hl hfp (hrun vs hvs hfit) ?_ trivial hk
    rw[hb]
    refine⟨hsp,hfp,pre,post,?_,hpre,hpost⟩
    rw[setRow_heap w _ _ _ E _ hh,hfl]
   split at h
   ·rename_i hagg
    split at h<;>try exact h.elim
    rename_i e h0 he
    rw[cH,decide_eq_true_eq]at h0
    subst h0
    rw[aX]at h
    have hcl':=dI (β:=β) he
    have hcsz:=EK.cells_length ek e
    refine fin (ek.cells e) e hcl' (by omega) ?_ h
    rw[Ac ek e xs i hi,hcsz];rfl
   ·rename_i hagg
    split at h<;>try exact h.elim
    rename_i c
    split at h<;>try exact h.elim
    rename_i e he
    rw[aX]at h
    obtain⟨he1,he2⟩:=Cr (β:=β) he
    refine fin [c.den β] e rfl (by simp only[List.length_singleton];omega) ?_ h
    rw[vX ek e off _ he2 xs i hi he1,qW _ _ _ (by omega)]
    rfl
end
end Go.Fw
