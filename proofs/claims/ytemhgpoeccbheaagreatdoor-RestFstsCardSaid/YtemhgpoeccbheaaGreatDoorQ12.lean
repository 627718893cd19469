/-
  (*strings.Builder).WriteString and String: what they leave of all other blocks, block by block; a builder as an object.
-/
import Derived.Test.YtemhgpoeccbheaaGreatDoorQ08
import Derived.Test.YtemhgpoeccbheaaGreatDoorQ11
import Derived.Test.YtemhgpoeccbheaaGreatDoorQ05
import Derived.Test.YtemhgpoeccbheaaGreatDoorQ06
import Derived.Laws.IdiomStrings
import Derived.Test.YtemhgpoeccbheaaGreatDoorQ07
set_option linter.unusedSimpArgs false
set_option linter.unusedVariables false
set_option maxRecDepth 100000
set_option maxHeartbeats 16000000
namespace Go.Fw
open Go Go.Proofs
theorem Oj (xs:List Arc) (cap sp:Nat) (hl:xs.length<=1000000) (hcap:xs.length<=cap):Ct Tryz.prog 107 [.c (.sl 0 5 0 xs.length cap),.c (.fn 108 [])] [] [(0,.arr true 55 .arc xs sp)] 1
  (fun v s=> ∃rest,v= .c (.sl 0 5 0 (comp xs).length cap)/\s=⟨[],[(0,.arr true 55 .arc (comp xs++rest) sp)],1⟩/\(comp xs).length+rest.length=xs.length):=by
 refine ctW Tryz.tyOk 8 [] Tryz.func107 rfl (by simp) (by simp) (fr:= [(0,.c (.sl 0 5 0 xs.length cap)),(1,.c (.fn 108 []))]) rfl ?_
 refine gO ?_
 refine⟨fun h=>?_,fun h=>?_⟩
 ·have e:=At xs (by omega)
  exact⟨[],[(0,.arr true 55 .arc xs sp)],1,.c (.sl 0 5 0 xs.length cap),⟨by rfl,trivial,by simp⟩,by simp,[],by rw[e],by rw[e,List.append_nil],by rw[e];rfl⟩
 ·(conv=>whnf)
  refine aJ (fun k:Nat=>⟨[(0,.c (.sl 0 5 0 xs.length cap)),(1,.c (.fn 108 [])),(5,.i k)],[(0,.arr true 55 .arc xs sp)],1⟩)
   (fun k=>1<=k/\k<=xs.length/\comp (xs.take k)=xs.take k) (fun k=>xs.length-k) 1 [] ⟨by rfl,?_,?_⟩ ⟨Nat.le_refl _,by omega,aAm xs⟩ ?_
  ·simp
  ·simp
  ·rintro k ⟨hk1,hk2,hk3⟩
   have e0:0+(k:Int).toNat=k:=by omega
   have e1:0+((k:Int)-1).toNat=k-1:=by omega
   refine gO ?_
   refine⟨fun h=>?_,fun h=>?_⟩
   ·have ecm:jE (xs.getD k aD) (xs.getD (k-1) aD)=jE (xs.getD (0+(k:Int).toNat) EK.arc.dflt) (xs.getD (0+((k:Int)-1).toNat) EK.arc.dflt):=by rw[e0,e1];rfl
    refine cF (Cn (xs.getD (0+(k:Int).toNat) EK.arc.dflt) (xs.getD (0+((k:Int)-1).toNat) EK.arc.dflt)) [] Tryz.call108 ?_
    rintro _ _ ⟨rfl,rfl⟩
    refine gO ?_
    refine⟨fun h h=>?_,fun h=>?_⟩
    ·replace ecm:=ecm.trans (show _=true by first|assumption|simpa using h)
     (conv=>whnf)
     refine aJ (fun y:Nat×Nat×List Arc=>⟨[(0,.c (.sl 0 5 0 xs.length cap)),(1,.c (.fn 108 [])),(5,.i y.1),(6,.c (.sl 0 5 k (xs.length-k) (cap-k))),(7,.i (y.2.1-k:Nat))],[(0,.arr true 55 .arc y.2.2 sp)],1⟩)
      (fun y=>k+1<=y.2.1/\jC xs y.1 y.2.1 y.2.2) (fun y=>xs.length-y.2.1) (k,k+1,xs) [] ⟨by rfl,?_,?_⟩ ⟨Nat.le_refl _,jC.start hk1 (by omega) hk3 ecm⟩ ?_
     ·simp
     ·simp
     ·rintro⟨p,n,ys⟩ ⟨hkn,hin⟩
      have hyl:=hin.len
      have hpn:=hin.kn
      have hnl:=hin.nl
      have hp1:=hin.k1
      simp only at hkn hyl hpn hnl hp1⊢
      have f0:k+((n-k:Nat):Int).toNat=n:=by omega
      have f1:k+(((n-k:Nat):Int)-1).toNat=n-1:=by omega
      have f2:0+(p:Int).toNat=p:=by omega
      refine gO ?_
      refine⟨fun h=>?_,fun h h=>?_⟩
      ·have hu0:=hin.un n (by simp only;omega)
       have hu1:=hin.un (n-1) (by simp only;omega)
       simp only at hu0 hu1
       have ecm2:jE (xs.getD n aD) (xs.getD (n-1) aD)=jE (ys.getD (k+((n-k:Nat):Int).toNat) EK.arc.dflt) (ys.getD (k+(((n-k:Nat):Int)-1).toNat) EK.arc.dflt):=by rw[f0,f1,<-hu0,<-hu1];rfl
       refine cF (Cn (ys.getD (k+((n-k:Nat):Int).toNat) EK.arc.dflt) (ys.getD (k+(((n-k:Nat):Int)-1).toNat) EK.arc.dflt)) [] Tryz.call108 ?_
       rintro _ _ ⟨rfl,rfl⟩
       refine gO ?_
       refine⟨fun h=>?_,fun h=>?_⟩
       ·replace ecm2:=ecm2.trans (show _=false by first|assumption|simpa using h)
        have hu0':ys.getD n EK.arc.dflt=xs.getD n aD:=hu0
        (conv=>whnf)
        refine⟨(p+1,n+1,ys.set p (xs.getD n aD)),[],⟨by rfl,?_,?_⟩,⟨by simp only;omega,hin.put (by simp only;omega) ecm2⟩,by simp only;omega⟩
        ·simp
         omega
        ·simp only[f0,f2,hu0']
         simp
       ·replace ecm2:=ecm2.trans (show _=true by first|assumption|simpa using h)
        (conv=>whnf)
        refine⟨(p,n+1,ys),[],⟨by rfl,?_,?_⟩,⟨by simp only;omega,hin.skip (by simp only;omega) ecm2⟩,by simp only;omega⟩
        ·simp
         omega
        ·simp
      ·(conv=>whnf)
       have e:n=xs.length:=by omega
       subst e
       obtain⟨d1,d2⟩:=hin.done
       have d3:ys.take p=comp xs:=by
        have:=hin.tk
        rw[List.take_length]at this
        exact this
       simp only at d1 d2
       refine aC5 Tryz.tyOk rfl rfl rfl rfl (by rw[hyl];omega) ?_
       generalize hz:(List.take _ ys++List.replicate _ _++List.drop _ ys)=zs
       have hz2:zs=comp xs++List.replicate (xs.length-p) aD:=by
        have e3:0+(p:Int).toNat=p:=by omega
        have e4:((xs.length:Int)-p).toNat=xs.length-p:=by omega
        rw[<-hz,e3,e4,d3,List.drop_of_length_le (by omega),List.append_nil]
        rfl
       clear hz
       subst hz2
       refine gO fun h=>?_
       exact⟨[],[(0,.arr true 55 .arc (comp xs++List.replicate (xs.length-p) aD) sp)],1,.c (.sl 0 5 0 (comp xs).length cap),⟨by rfl,trivial,by simp⟩,by rw[d1];simp,List.replicate (xs.length-p) aD,rfl,rfl,by rw[d1,List.length_replicate];omega⟩
    ·replace ecm:=ecm.trans (show _=false by first|assumption|simpa using h)
     (conv=>whnf)
     refine⟨k+1,[],⟨by rfl,?_,?_⟩,⟨by omega,by omega,by rw[qM xs k hk1 (by omega),ecm,hk3,if_neg (by simp),aY xs k aD (by omega)]⟩,by omega⟩
     ·simp
     ·simp
   ·(conv=>whnf)
    have e:k=xs.length:=by omega
    subst e
    rw[List.take_length]at hk3
    exact⟨[],[(0,.arr true 55 .arc xs sp)],1,.c (.sl 0 5 0 xs.length cap),⟨by rfl,trivial,by simp⟩,by simp,[],by rw[hk3],by rw[hk3,List.append_nil],by rw[hk3];rfl⟩
theorem Vh (xs:List Arc) (cap sp:Nat) (hl:xs.length<=1000000) (hcap:xs.length<=cap):Ct Tryz.prog 107 [.c (.sl 0 5 0 xs.length cap),.c (.fn 108 [])] [] [(0,.arr true 55 .arc xs sp)] 1
  (fun v s=> ∃sp',v= .c (.sl 0 5 0 (comp xs).length cap)/\s=⟨[],[(0,.arr true 55 .arc (comp xs) sp')],1⟩/\xs.length+sp=(comp xs).length+sp'):=by
 refine(Oj xs cap sp hl hcap).short ?_
 rintro v s ⟨rest,rfl,rfl,hr⟩
 exact⟨0,55,sp,.arc,comp xs,rest,rfl,rest.length+sp,rfl,rfl,by omega⟩
theorem oH (xs:List Arc) (cap sp:Nat) (hl:xs.length<=1000000) (hcap:xs.length<=cap):Ct Tryz.prog 62 [.c (.sl 0 5 0 xs.length cap)] [] [(0,.arr true 55 .arc xs sp)] 1
  (fun v s=> ∃zs sp',v= .c (.sl 0 5 0 zs.length cap)/\s=⟨[],[(0,.arr true 55 .arc zs sp')],1⟩/\xs.length+sp=zs.length+sp'/\wL xs zs):=by
 refine ctW Tryz.tyOk 3 [] Tryz.func62 rfl (by simp) (by simp) (fr:= [(0,.c (.sl 0 5 0 xs.length cap))]) rfl ?_
 refine gO ?_
 refine cF (Fd xs cap sp hl) [0] Tryz.call103 ?_
 rintro _ _ ⟨ys,rfl,rfl,hm,hs⟩
 have hyl:=hm.len
 refine gO ?_
 refine aO (Vh ys cap sp (by omega) (by omega)) [0] Tryz.call107 rfl (by simp[hyl]) (by simp[hyl]) (by simp) ?_
 rintro _ _ ⟨sp',rfl,rfl,hsp⟩
 refine gO ?_
 exact⟨[],[(0,.arr true 55 .arc (comp ys) sp')],1,.c (.sl 0 5 0 (comp ys).length cap),⟨by rfl,trivial,by simp⟩,by simp,comp ys,sp',rfl,rfl,by omega,ys,hm.perm,hs,rfl⟩
end Go.Fw
namespace Go.Fw
open Go Go.Proofs Go.Shelf Go.RowKit
theorem Hk {P:Program} (w:World) (t u ty e:TypeId) (i:TypeInfo) (ht:P.underlying t=some (.slice e)) (hu:P.underlying u=some .string) (hi:P.info? e=some i) (hz:i.zero=some (.int .u8 0))
  (hsize:i.size=1) (hby:i.bytes=1) (v:Value) (n:Nat) (xs:List Value) (hown:w.ownsRow 0 e 1 v n xs) (s:ByteArray) (hbytes:n+s.size<=140737488355328):
  ∃v' w',(Builtin.append_ #[t,u] ty #[v,.string s]).run P w= .ok v' w'/\w'.ownsRow 0 e 1 v' (n+s.size) (xs++Lib.strCells s)/\w.grownBy w' v.ownBlock/\(v'.ownBlock=none\/v'.ownBlock=v.ownBlock\/v'.ownBlock=some w.heap.size):=by
 obtain⟨v',w',hr,h2,h3,h4⟩:=Lib.run_append_own_string (P:=P) w 0 t u ty e i ht hu hi hz hsize hby v n xs hown s (by unfold maxLen;omega) hbytes (Nat.zero_le _)
 refine⟨v',w',hr,h2,h3,?_⟩
 have hxl:xs.length=n:=by simpa using hown.1
 rcases hown.2 with⟨rfl,rfl⟩|⟨g,cap,cur,rfl,hbg,hg,hnc,hcm,hcs,htake⟩
 ·by_cases hm:s.size=0
  ·rw[h4.2 ⟨rfl,hm⟩];exact .inl rfl
  ·have hr2:=run_append_nil_string (P:=P) w t u ty e i (.int .u8 0) ht hu hi hz s (by omega) (by omega) (by rw[hby];omega)
   rw[hr2]at hr
   cases hr
   exact .inr (.inr rfl)
 ·by_cases hroom:n+s.size<=cap
  ·have hcs':cur.size=cap:=by simpa using hcs
   have hr2:=Lib.run_append_room_string (P:=P) w t u ty e i ht hu hi hsize g n cap cur hg s hroom (by omega)
   rw[hr2]at hr
   cases hr
   exact .inr (.inl rfl)
  ·have holds: ∀j u,xs[j]?=some u->w.cell? ((⟨g,0,none⟩:Addr).add j)=some u:=hown.cells (g:=g) rfl
   have hr2:=Lib.run_append_grow_string (P:=P) w t u ty e i (.int .u8 0) ht hu hi hz ⟨g,0,none⟩ n cap xs (by rw[hsize];simpa using hxl) holds s (by omega) (by omega) (by rw[hby];exact growslice_fits (by omega) (by omega))
   rw[hr2]at hr
   cases hr
   exact .inr (.inr rfl)
theorem Ll {P:Program} {w:World} {ops:Array Oper} {rest:List Oper} {o:Oper} {a:Act} {Q:Exit->Act->World->Prop} (hgd:o.guard=none) (sl x:Operand) (t u:TypeId) {e:TypeId}
  (ho:o.op= .call {callee:= .builtin .append,args:= #[sl,x],argTypes:= #[t,u]}) (ht:P.underlying t=some (.slice e)) (hu:P.underlying u=some .string) (i:TypeInfo) (hi:P.info? e=some i) (hz:i.zero=some (.int .u8 0))
  (hsize:i.size=1) (hby:i.bytes=1) (v:Value) (n:Nat) (xs:List Value) (hown:w.ownsRow 0 e 1 v n xs) (s:ByteArray) (hs:a.eval sl=v) (hx:a.eval x= .string s) (hbytes:n+s.size<=140737488355328)
  (k: ∀v' w',w'.ownsRow 0 e 1 v' (n+s.size) (xs++Lib.strCells s)->w.grownBy w' v.ownBlock->(v'.ownBlock=none\/v'.ownBlock=v.ownBlock\/v'.ownBlock=some w.heap.size)->wpList P ops Q rest (a.put o.dst v') w'):wpList P ops Q (o::rest) a w:=by
 refine wpList_plain hgd fun K hK=>?_
 obtain⟨v',w',hr,k2,k3,k4⟩:=Hk (P:=P) w t u o.type e i ht hu hi hz hsize hby v n xs hown s hbytes
 unfold Oper.wp execOp
 simp only[ho,resolve,invoke,builtin,Sem.run_bind,Sem.run_pure,Result.andThen_ok,List.map_toArray,List.map_cons,List.map_nil,hs,hx,hr]
 exact hK _ _ (k v' w' k2 k3 k4)
structure pU (b:Nat) (p v:Value) (l:List UInt8) (w:World):Prop where
 row:w.heap[b]?=some (.cells #[p,v] 109 (0,0))
 ptr:p= .pointer none\/p= .pointer (some ⟨b,0,none⟩)
 own:w.ownsRow 0 5 1 v l.length (Lib.byteCells l)
 ne:v.ownBlock≠some b
theorem pU.is {b:Nat} {p v:Value} {l:List UInt8} {w:World} (h:pU b p v l w):Lib.BuilderAt 109 5 0 b p (Lib.byteCells l) w:=⟨Nat.zero_le _,v,h.row,by rw[Lib.byteCells_length];exact h.own,h.ne⟩
theorem Vn {b:Nat} {p v:Value} {l:List UInt8} {w:World} (h:pU b p v l w):
  Calls Tryz.prog 130 #[.pointer (some ⟨b,0,none⟩)] w fun e w'=>e= .returned (.tuple #[])/\pU b (.pointer (some ⟨b,0,none⟩)) v l w'/\w.grownBy w' (some b):=by
 rcases h.ptr with hp|hp
 ·subst hp
  have key:Calls Tryz.prog 130 #[.pointer (some ⟨b,0,none⟩)] w _:=Any.Builder_copyCheck_fresh {yA with} aBW.toX72 b w h.is.cell0 h.is.shape h.is.frozen0
  refine key.mono ?_
  rintro e w' ⟨rfl,rfl⟩
  refine⟨rfl,⟨?_,.inr rfl,?_,h.ne⟩,⟨rfl,rfl,rfl,by simp[World.setCell],fun k _ hk=>Below.heap_setCell _ _ _ _ (fun e=>hk (by simp[e]))⟩⟩
  ·simp[World.setCell,Array.getElem?_modify,h.row]
  ·exact h.own.kept (row:=some b) ⟨rfl,rfl,rfl,by simp[World.setCell],fun k _ hk=>Below.heap_setCell _ _ _ _ (fun e=>hk (by simp[e]))⟩ (Or.inr h.ne)
 ·subst hp
  have key:Calls Tryz.prog 130 #[.pointer (some ⟨b,0,none⟩)] w _:=Any.Builder_copyCheck_used {yA with} aBW.toX72 b w h.is.cell0
  refine key.mono ?_
  rintro e w' ⟨rfl,rfl⟩
  exact⟨rfl,h,⟨rfl,rfl,rfl,Nat.le_refl _,fun _ _ _=>rfl⟩⟩
theorem Ib (l:List UInt8):Lib.strCells (bs l)=Lib.byteCells l:=by rw[Lib.strCells_eq,bE]
def aDW (w:World) (v v':Value):Prop:=v'.ownBlock=none\/v'.ownBlock=v.ownBlock\/ ∃k,v'.ownBlock=some k/\w.heap.size<=k
theorem Sr {b:Nat} {p v:Value} {l:List UInt8} {w:World} (h:pU b p v l w) (s:List UInt8) (hlen:l.length+s.length<=140737488355328):
  Calls Tryz.prog 78 #[.pointer (some ⟨b,0,none⟩),.string (bs s)] w fun e w'=>e= .returned (.tuple #[.int .i64 s.length,.nilIface])/\
   ∃v',pU b (.pointer (some ⟨b,0,none⟩)) v' (l++s) w'/\aDW w v v'/\w.heap.size<=w'.heap.size/\Ext (fun k=>k<w.heap.size/\k≠b/\some k≠v.ownBlock) w w':=by
 obtain⟨i0,hi,hz0,hz1,hz2⟩:=info_parts aBW.infoByte
 have u65:Tryz.prog.underlying 107=some (.slice 5):=yA.t37
 have u9:Tryz.prog.underlying 9=some .string:=yA.t9
 go_enter Tryz.func78,Tryz.ntmps78
 go_wp2_with (go_at_call 130;refine(Vn h).mono ?_)
 rintro e w1 ⟨rfl,h1,hg1⟩
 have c1:w1.cell? ⟨b,1,none⟩=some v:=by rw[Lib.cell_of_heap h1.row];rfl
 have hblt:b<w1.heap.size:=(Array.getElem?_eq_some_iff.1 h1.row).1
 go_wp2_with (at_builtin;refine Ll rfl _ _ 107 9 rfl u65 u9 i0 hi hz0 hz1 hz2 v _ _ h1.own (bs s) rfl rfl (by rw[aZ];omega) ?_)
 intro v' w2 hown' hgrow hwh
 have hb2:w2.heap[b]?=some (.cells #[.pointer (some ⟨b,0,none⟩),v] 109 (0,0)):=by
  rw[hgrow.block b hblt (fun e=>h1.ne e.symm)]
  exact h1.row
 have d0:w2.cell? ⟨b,0,none⟩=some (.pointer (some ⟨b,0,none⟩)):=by rw[Lib.cell_of_heap hb2];rfl
 have d1:w2.cell? ⟨b,1,none⟩=some v:=by rw[Lib.cell_of_heap hb2];rfl
 have f1:w2.frozen? ⟨b,1,none⟩=false:=Lib.frozen_of_heap hb2 1
 obtain⟨ao,n',cap,rfl⟩: ∃ao n' cap,v'= .slice ao n' cap:=by
  rcases hown'.2 with⟨hv,_⟩|⟨g,cap,cur,hv,_⟩
  ·exact⟨_,_,_,hv⟩
  ·exact⟨_,_,_,hv⟩
 go_wp2
 go_ret2
 rw[Ib,<-Lib.byteCells_append,aZ]at hown'
 have hput:=Lib.BuilderAt.put (T:=109) (e:=5) (Nat.zero_le b) hb2 (bs':=Lib.byteCells (l++s)) (by rw[Lib.byteCells_length,List.length_append];exact hown') (by decide)
 obtain⟨_,v3,hr3,ho3,hn3⟩:=hput
 have hv3:v3= .slice ao n' cap:=by
  have h3:(w2.setCell ⟨b,1,none⟩ (.slice ao n' cap)).heap[b]?=some (.cells #[.pointer (some ⟨b,0,none⟩),.slice ao n' cap] 109 (0,0)):=by simp[World.setCell,Array.getElem?_modify,hb2]
  rw[h3]at hr3
  simp at hr3
  exact hr3.symm
 subst hv3
 refine⟨by rw[aZ];rfl,.slice ao n' cap,⟨hr3,.inr rfl,by rw[Lib.byteCells_length]at ho3;exact ho3,hn3⟩,?_,?_,?_⟩
 ·rcases hwh with h|h|h
  ·exact .inl h
  ·exact .inr (.inl h)
  ·exact .inr (.inr ⟨_,h,hg1.size⟩)
 ·have:=hg1.size
  have:=hgrow.size
  simp[World.setCell]
  omega
 ·refine⟨hgrow.os.trans hg1.os,hgrow.tape.trans hg1.tape,hgrow.output.trans hg1.output,?_,?_⟩
  ·have:=hg1.size
   have:=hgrow.size
   simp[World.setCell]
   omega
  ·rintro k ⟨hk1,hk2,hk3⟩
   rw[Below.heap_setCell _ _ _ _ hk2,hgrow.block k (Nat.lt_of_lt_of_le hk1 hg1.size) hk3]
   exact hg1.block k hk1 (fun e=>hk2 (Option.some.inj e))
theorem Mf {b:Nat} {p v:Value} {l:List UInt8} {w:World} (h:pU b p v l w) (h0:l≠ []):
  Calls Tryz.prog 81 #[.pointer (some ⟨b,0,none⟩)] w fun e w'=>e= .returned (.string (bs l))/\Ext (fun k=>some k≠v.ownBlock) w w':=by
 obtain⟨hbk,hptr,hown,hne⟩:=h
 have hl0:l.length≠0:=by simpa using h0
 obtain⟨g,cap,cur,rfl,hbg,hg,hnc,hcm,hcs,htake⟩: ∃g cap cur,v= .slice (some ⟨g,0,none⟩) l.length cap/\0<=g/\w.heap[g]?=some (.cells cur 5 (0,0))/\l.length<=cap/\cap<=maxLen/\cur.size=cap*1/\cur.toList.take (l.length*1)=Lib.byteCells l:=by
  rcases hown.2 with⟨_,hz⟩|hr
  ·exact absurd hz hl0
  ·exact hr
 have u97:Tryz.prog.underlying 163=some (.pointer 5):=aAR.t127
 have c1:w.drew.cell? ⟨b,1,none⟩=some (.slice (some ⟨g,0,none⟩) l.length cap):=by
  have:w.drew.heap[b]?=some (.cells #[p,.slice (some ⟨g,0,none⟩) l.length cap] 109 (0,0)):=hbk
  rw[Lib.cell_of_heap this];rfl
 have hSD:(Builtin.unsafeSliceData_ #[107] 163 #[.slice (some ⟨g,0,none⟩) l.length cap]).run Tryz.prog w.drew= .ok (.pointer (some ⟨g,0,none⟩)) w.drew:=Lib.run_unsafeSliceData_row _ _ _ _ _ _ (by omega)
 have hUS:(Builtin.unsafeString_ #[163,3] 9 #[.pointer (some ⟨g,0,none⟩),.int .i64 l.length]).run Tryz.prog w.drew= .ok (.string ⟨l.toArray⟩) (w.drew.freeze ⟨g,0,none⟩ l.length):=by
  refine Lib.run_unsafeString_row w.drew 163 3 9 5 u97 aBW.cellsByte g cur.size (by have hg':w.drew.heap[g]?=some (.cells cur 5 (0,0)):=hg;simp[World.shape?,hg']) l h0 (by omega) (by unfold maxLen at hcm;omega) ?_
  intro j x hx
  exact hown.cells (g:=g) rfl j (.int .u8 x.toNat) (by simp[Lib.byteCells,hx])
 have hfin:Ext (fun k=>some k≠(Value.slice (some ⟨g,0,none⟩) l.length cap).ownBlock) w (w.drew.freeze ⟨g,0,none⟩ l.length):=by
  have hb:=Lib.below_freeze (B:=0) (Below.drew (Below.refl 0 w)) (p:=⟨g,0,none⟩) (Nat.zero_le _) l.length
  refine⟨hb.os,hb.tape,hb.output,hb.size,fun k hk=>?_⟩
  have hkg:k≠g:=fun e=>hk (by rw[e];rfl)
  unfold World.freeze
  split
  ·rfl
  ·simp[Array.getElem?_modify,Ne.symm hkg]
   rfl
 have mixed:=Tryz.mixed
 go_enter Tryz.func81,Tryz.ntmps81
 go_wp2
 go_region_o
 all_goals (go_wp2;go_ret;exact⟨rfl,hfin⟩)
end Go.Fw
namespace Go.Fw
open Go Go.Proofs
def Lz (l:List UInt8) (oa:Option Addr) (fp:Nat->Prop) (w:World):Prop:= ∃b p v,oa=some ⟨b,0,none⟩/\fp b/\pU b p v l w/\ ∀k,v.ownBlock=some k->fp k
abbrev Hi (l:List UInt8):SO:= .gen (Lz l)
theorem pU.kept {b:Nat} {p v:Value} {l:List UInt8} {w w':World} (h:pU b p v l w) (h1:w'.heap[b]?=w.heap[b]?) (h2: ∀k,v.ownBlock=some k->w'.heap[k]?=w.heap[k]?):pU b p v l w':=by
 refine⟨h1.trans h.row,h.ptr,⟨h.own.1,?_⟩,h.ne⟩
 rcases h.own.2 with hn|⟨g,cap,cur,rfl,hbg,hg,hr⟩
 ·exact .inl hn
 ·exact .inr ⟨g,cap,cur,rfl,hbg,(h2 g rfl).trans hg,hr⟩
theorem Lz.ok {l:List UInt8} {oa:Option Addr} {fp:Nat->Prop} {w:World} {β:Env} {Z:Nat->Prop} (h:Lz l oa fp w):SO.ok β Z fp w oa (Hi l):=by
 refine⟨h,fun w' hw _=>?_⟩
 obtain⟨b,p,v,e,hb,hat,hk⟩:=h
 exact⟨b,p,v,e,hb,hat.kept (hw b hb) (fun k hk2=>hw k (hk k hk2)),hk⟩
theorem Ht {β:Env} {Z:Nat->Prop} {fp:Nat->Nat->Prop} {w:World} {o:SO} (hs:aR β Z fp ⟨[],[(0,o)],1⟩ w) {l:List UInt8} (h:Lz l (β 0) (fp 0) w) (s:List UInt8) (hlen:l.length+s.length<=140737488355328):
  Calls Tryz.prog 78 ([SV.c (.ptr 0 0),stV s].map (SV.den β)++[]).toArray w fun e w'=> ∃v β' Z' fp' s',e= .returned (v.den β')/\Nxt β Z ⟨[],[(0,o)],1⟩ w v w' β' Z' fp' ⟨[],s'.hp,s'.nx⟩/\
   (v= .tup [.c (.i s.length),.c (.v .nilIface)]/\s'=(⟨[],[(0,Hi (l++s))],1⟩:S)):=by
 obtain⟨b,p,v,e,hb,hat,hk⟩:=h
 have harg:([SV.c (.ptr 0 0),stV s].map (SV.den β)++[]).toArray= #[Value.pointer (some ⟨b,0,none⟩),.string (bs s)]:=by
  simp[SV.den,SA.den,SC.den,e,Addr.add_lit]
 rw[harg]
 refine(Sr hat s hlen).mono ?_
 rintro e' w' ⟨rfl,v',hat',hrow,hsz,hext⟩
 have hfl:=fun k hk=>hs.flt 0 o rfl k hk
 have hfp: ∀k,v'.ownBlock=some k->fp 0 k\/w.heap.size<=k:=by
  intro k h'
  rcases hrow with h1|h1|⟨k2,h1,h2⟩
  ·rw[h1]at h';cases h'
  ·exact .inl (hk k (h1.symm.trans h'))
  ·rw[h1]at h';cases h';exact .inr h2
 refine⟨.tup [.c (.i s.length),.c (.v .nilIface)],β,Z,fun id k=>id=0/\(fp 0 k\/v'.ownBlock=some k),⟨[],[(0,Hi (l++s))],1⟩,rfl,⟨fun _ _=>rfl,?_,fun _ h=>h,rfl,Nat.le_refl _,⟨?_,?_,?_,?_,?_⟩,?_⟩,rfl,rfl⟩
 ·refine hext.mono fun k hz=>⟨hs.zlt k hz,fun e=>?_,fun e=>?_⟩
  ·subst e;exact(hfl _ hb).2 hz
  ·exact(hfl k (hk k e.symm)).2 hz
 ·exact⟨hs.zlt'.1,fun k hz=>Nat.lt_of_lt_of_le (hs.zlt k hz) hsz⟩
 ·rintro id o' hl k ⟨rfl,hf⟩
  rcases hf with hf|hf
  ·exact⟨Nat.lt_of_lt_of_le (hfl k hf).1 hsz,(hfl k hf).2⟩
  ·rcases hfp k hf with h1|h1
   ·exact⟨Nat.lt_of_lt_of_le (hfl k h1).1 hsz,(hfl k h1).2⟩
   ·exact⟨(hat'.own.lt k hf).2,fun hz=>absurd (hs.zlt k hz) (by omega)⟩
 ·rintro id id' o1 o2 hl hl' hne k ⟨rfl,_⟩ ⟨rfl,_⟩
  exact hne rfl
 ·intro id o' hl
  simp only[aC]at hl
  split at hl
  ·rename_i e0
   subst e0
   cases hl
   exact Lz.ok ⟨b,_,v',e,⟨rfl,.inl hb⟩,hat',fun k hk'=>⟨rfl,.inr hk'⟩⟩
  ·cases hl
 ·intro id o' hl
  simp only[aC]at hl
  split at hl
  ·rename_i e0
   subst e0
   cases hl
   exact⟨Nat.one_pos,trivial⟩
  ·cases hl
 ·simp[SV.lt,SA.lt,SC.lt,Value.oneCell']
theorem Pi (l s:List UInt8) (hlen:l.length+s.length<=140737488355328):
  Ct Tryz.prog 78 [.c (.ptr 0 0),stV s] [] [(0,Hi l)] 1 (fun v s'=>v= .tup [.c (.i s.length),.c (.v .nilIface)]/\s'=⟨[],[(0,Hi (l++s))],1⟩):=
 fun _ _ _ _ hs=>Ht hs (hs.obj 0 _ rfl).1 s hlen
theorem Wf (s:List UInt8) (hlen:s.length<=140737488355328):
  Ct Tryz.prog 78 [.c (.ptr 0 0),stV s] [] [(0,.box 109 [.v (.pointer none),.v (.slice none 0 0)])] 1 (fun v s'=>v= .tup [.c (.i s.length),.c (.v .nilIface)]/\s'=⟨[],[(0,Hi s)],1⟩):=by
 intro β Z fp w hs
 obtain⟨b,e,hb,hh⟩:=hs.obj 0 _ rfl
 have:=Ht hs (l:= []) ⟨b,.pointer none,.slice none 0 0,e,hb,⟨hh,.inl rfl,World.ownsRow_nil _ _ _ _,by simp[Value.ownBlock]⟩,fun k hk=>by cases hk⟩ s (by simpa using hlen)
 rwa [List.nil_append]at this
theorem Wu (l:List UInt8) (h0:l≠ []):Ct Tryz.prog 81 [.c (.ptr 0 0)] [] [(0,Hi l)] 1 (fun v s'=>v=stV l/\s'=⟨[],[],1⟩):=by
 intro β Z fp w hs
 obtain⟨b,p,v,e,hb,hat,hk⟩:=(hs.obj 0 _ rfl).1
 have harg:([SV.c (.ptr 0 0)].map (SV.den β)++[]).toArray= #[Value.pointer (some ⟨b,0,none⟩)]:=by
  simp[SV.den,SA.den,SC.den,e,Addr.add_lit]
 rw[harg]
 refine(Mf hat h0).mono ?_
 rintro e' w' ⟨rfl,hext⟩
 have hfl:=fun k hk=>hs.flt 0 _ rfl k hk
 refine⟨stV l,β,Z,fun _ _=>False,⟨[],[],1⟩,rfl,⟨fun _ _=>rfl,?_,fun _ h=>h,rfl,Nat.le_refl _,⟨?_,?_,?_,?_,?_⟩,?_⟩,rfl,rfl⟩
 ·exact hext.mono fun k hz e=>(hfl k (hk k e.symm)).2 hz
 ·exact⟨hs.zlt'.1,fun k hz=>Nat.lt_of_lt_of_le (hs.zlt k hz) hext.size⟩
 ·rintro id o' hl;cases hl
 ·rintro id id' o1 o2 hl;cases hl
 ·intro id o' hl;cases hl
 ·intro id o' hl;cases hl
 ·simp[SV.lt,SA.lt,SC.lt,Value.oneCell']
end Go.Fw
namespace Go.Fw
open Go Go.Proofs Go.RowKit
end Go.Fw
namespace Go.Fw
open Go Go.Proofs
def pO (F:TF):Bool:= !(F.arcs.any fun a=>a.i !=a.o)
def aAW (F:TF):Bool:=F.arcs.any fun a=>a.i==0
theorem aBV (a:Arc):Ct Tryz.prog 109 [dK a] [] [] 0 (Is 0 (.b (a.i !=a.o))):=by
 refine ctW Tryz.tyOk 3 [] Tryz.func109 rfl (by simp) (by simp) (fr:= [(0,dK a)]) rfl ?_
 refine gO ?_
 all_goals
  (conv=>whnf)
  refine aQ.is ?_
  simp_all[eqV,eqA,eqC]
theorem aBK (a:Arc):Ct Tryz.prog 121 [dK a] [] [] 0 (Is 0 (.b (a.i==0))):=by
 refine ctW Tryz.tyOk 3 [] Tryz.func121 rfl (by simp) (by simp) (fr:= [(0,dK a)]) rfl ?_
 refine gO ?_
 all_goals
  (conv=>whnf)
  refine aQ.is ?_
  simp_all[eqV,eqA,eqC]
theorem Zw (a:Arc):Ct Tryz.prog 125 [dK a] [] [] 0 (Is 0 (.b (decide (a.w>1000000000)))):=by
 refine ctW Tryz.tyOk 3 [] Tryz.func125 rfl (by simp) (by simp) (fr:= [(0,dK a)]) rfl ?_
 refine gO ?_
 all_goals
  (conv=>whnf)
  refine aQ.is ?_
  simp_all[eqV,eqA,eqC]
theorem Zv (x:Int):Ct Tryz.prog 126 [.i x] [] [] 0 (Is 0 (.b (decide (x>1000000000)))):=by
 refine ctW Tryz.tyOk 3 [] Tryz.func126 rfl (by simp) (by simp) (fr:= [(0,.i x)]) rfl ?_
 refine gO ?_
 all_goals
  (conv=>whnf)
  refine aQ.is ?_
  simp_all[eqV,eqA,eqC]
theorem wG (F:TF) (hal:F.arcs.length<=9223372036854775807):Ct Tryz.prog 63 [fV F] [] (hpF F) 2 (Is 2 (.b (pO F))):=by
 refine ctW Tryz.tyOk 7 [] Tryz.func63 rfl (by simp) (by simp) (fr:= [(0,fV F)]) rfl ?_
 refine gO ?_
 refine cI (dF F.arcs F.capA (by omega) 109 (fun a=>a.i !=a.o) aBV Tryz.call109) [1] Tryz.call67 ?_
 refine gO ?_
 all_goals
  (conv=>whnf)
  refine aQ.is ?_
  simp_all[eqV,eqA,eqC,pO]
def sg1 (l:List Arc) (k:Nat):Bool:=(l.getD k aD).i==0||(decide (0<k)&&((l.getD (k-1) aD).f==(l.getD k aD).f&&(l.getD (k-1) aD).i==(l.getD k aD).i))
def Ta (l:List Arc):Bool:= !((List.range l.length).any (sg1 l))
theorem Tp {n k:Nat} {p:Nat->Bool} (hk:k<n) (h:p k=true):(List.range n).any p=true:=by
 rw[List.any_eq_true]
 exact⟨k,List.mem_range.2 hk,h⟩
theorem Xx {n:Nat} {p:Nat->Bool} (h: ∀j,j<n->p j=false):(List.range n).any p=false:=by
 rw[List.any_eq_false]
 intro x hx
 rw[h x (List.mem_range.1 hx)]
 exact Bool.false_ne_true
theorem Xh (F:TF) (hal:F.arcs.length<=9223372036854775807):Ct Tryz.prog 95 [fV F] [] (hpF F) 2 (Is 2 (.b (Ta F.arcs))):=by
 refine ctW Tryz.tyOk 5 [6,7,8] Tryz.func95 rfl (by simp) (by simp) (fr:= [(0,fV F)]) rfl ?_
 refine gO ?_
 refine aJ (fun k:Nat=>⟨[(1,.c (.ptr 2 0)),(2,.b false),(6,.c (.sl 1 5 0 F.arcs.length F.capA)),(7,.i F.arcs.length),(8,.i k)],hpF F++[(2,.box 25 (aA F))],3⟩)
  (fun k=>k<=F.arcs.length/\ ∀j,j<k->sg1 F.arcs j=false) (fun k=>F.arcs.length-k) 0 [] ⟨by rfl,?_,?_⟩ ⟨Nat.zero_le _,fun j h=>absurd h (Nat.not_lt_zero _)⟩ ?_
 ·simp
 ·simp[aA]
 ·rintro k ⟨hk,hj⟩
  have e0:0+(k:Int).toNat=k:=by omega
  have e1:0<k->0+((k:Int)-1).toNat=k-1:=by omega
  have hsg:sg1 F.arcs k=((F.arcs.getD (0+(k:Int).toNat) EK.arc.dflt).i==0||(decide (0<k)&&((F.arcs.getD (0+((k:Int)-1).toNat) EK.arc.dflt).f==(F.arcs.getD (0+(k:Int).toNat) EK.arc.dflt).f&&(F.arcs.getD (0+((k:Int)-1).toNat) EK.arc.dflt).i==(F.arcs.getD (0+(k:Int).toNat) EK.arc.dflt).i))):=by
   rw[e0]
   by_cases hk0:0<k
   ·rw[e1 hk0];rfl
   ·simp only[sg1,hk0,decide_false,Bool.false_and];rfl
  have hyes:k<F.arcs.length->sg1 F.arcs k=true->Ta F.arcs=false:=fun h1 h2=>by unfold Ta;rw[Tp h1 h2];rfl
  have hno:sg1 F.arcs k=false-> ∀j,j<k+1->sg1 F.arcs j=false:=fun h2 j h3=>if e:j=k then e▸h2 else hj j (by omega)
  have hall:k=F.arcs.length->Ta F.arcs=true:=fun e=>by unfold Ta;rw[Xx fun j h=>hj j (by omega)];rfl
  refine gO ?_
  refine⟨fun h=>⟨fun h=>?_,fun h=>⟨fun h=>⟨fun h=>⟨fun h=>?_,fun h=>?_⟩,fun h=>?_⟩,fun h=>?_⟩⟩,fun h=>?_⟩
  ·rename_i h2
   have hx:=hyes (by omega) (by rw[hsg,beq_iff_eq.2 h];rfl)
   (conv=>whnf)
   refine aQ.is ?_
   simp[hx]
  ·rename_i h2 h3 h4 h5
   have hx:=hyes (by omega) (by rw[hsg,h5,h];simp;omega)
   (conv=>whnf)
   refine aQ.is ?_
   simp[hx]
  ·rename_i h2 h3 h4 h5
   have hx:=hno (by rw[hsg,beq_eq_false_iff_ne.2 h3,beq_eq_false_iff_ne.2 h,Bool.and_false,Bool.and_false];rfl)
   (conv=>whnf)
   refine⟨k+1,[],⟨by rfl,?_,?_⟩,⟨by omega,hx⟩,by omega⟩
   ·simp
   ·simp[aA]
  ·rename_i h2 h3 h4
   have hx:=hno (by rw[hsg,beq_eq_false_iff_ne.2 h3,beq_eq_false_iff_ne.2 h,Bool.false_and,Bool.and_false];rfl)
   (conv=>whnf)
   refine⟨k+1,[],⟨by rfl,?_,?_⟩,⟨by omega,hx⟩,by omega⟩
   ·simp
   ·simp[aA]
  ·rename_i h2 h3
   have hx:=hno (by rw[hsg,beq_eq_false_iff_ne.2 h3,decide_eq_false (by omega)];rfl)
   (conv=>whnf)
   refine⟨k+1,[],⟨by rfl,?_,?_⟩,⟨by omega,hx⟩,by omega⟩
   ·simp
   ·simp[aA]
  ·have hx:=hall (by omega)
   (conv=>whnf)
   refine aQ.is ?_
   simp[hx]
structure FRng (F:TF):Prop where
 st:0<=F.st/\F.st<=100000
 finl:(F.fin.length:Int)=F.st
 arcl:F.arcs.length<=100000
 arc: ∀a∈F.arcs,0<=a.f/\a.f<F.st/\0<=a.t/\a.t<F.st
theorem FRng.src {F:TF} (h:FRng F) {bk:Bool} {a:Arc} (ha:a∈F.arcs):0<=dE bk a/\dE bk a<(F.st.toNat:Nat)/\0<=dW bk a/\dW bk a<(F.st.toNat:Nat):=by
 have:=h.arc a ha
 have:=h.st
 unfold dE dW
 cases bk<;>simp only[Bool.false_eq_true,if_false,if_true,reduceIte]<;>omega
theorem Qz {l:List Arc} {bk:Bool} {k n:Nat} (h:0<=dE bk (l.getD k aD)) (i:Nat):(if i=(dE bk (l.getD k aD)).toNat then nxL l bk k (dE bk (l.getD k aD)).toNat++[dW bk (l.getD k aD)]else nxL l bk k i)=nxL l bk (k+1) i:=by
 show _=if(i:Int)=dE bk (l.getD k aD)then nxL l bk k i++[dW bk (l.getD k aD)]else nxL l bk k i
 by_cases e:(i:Int)=dE bk (l.getD k aD)
 ·rw[if_pos e,if_pos (by omega),show(dE bk (l.getD k aD)).toNat=i by omega]
 ·rw[if_neg e,if_neg (by omega)]
theorem Qp {L:Nat->Nat} {ms:List Bool} {B:Nat} (h: ∀j,L j<=B): ∀k,yZ L ms k<=k*B
 |0=>by simp[yZ]
 |k+1=>by
  have:=Qp (ms:=ms) h k
  have:=h k
  rw[Nat.succ_mul]
  unfold yZ
  split<;>omega
theorem Su (N:Nat):gG [] (List.replicate N EK.sli.dflt) N fun _=>([]:List Int):=by
 have e: ∀j,j<N->(List.replicate N EK.sli.dflt).getD j EK.sli.dflt=EK.sli.dflt:=fun j hj=>by simp[List.getD,hj]
 refine⟨by simp,fun j hj=>?_,fun j hj=>?_,fun s t b hs ht hst hb=>?_⟩
 ·rewrite [e j hj];exact(⟨Eq.refl 0,Eq.refl 0⟩:(0:Nat)=0/\(0:Nat)=0)
 ·rewrite [e j hj];show aM [] none=[];rfl
 ·rewrite [e s hs]at hb;cases hb
abbrev aDK (F:TF) (ms:List Bool) (rows:List Sli) (m:List (Addr×List Int×Nat)):List (Nat×SO):= [(0,.arr false 3 .int F.fin 0),(1,.arr false 55 .arc F.arcs 0),(3,.box 25 (onF F)),(4,.arr true 4 .bool ms 0),(5,.arr true 22 .sli rows 0),(6,.pool 3 .int m)]
theorem qD (F:TF) (hF:FRng F) (xs:List Int) (sp:Nat) (bk:Bool) (hx: ∀x∈xs,0<=x/\x<(F.st.toNat:Nat)) (hxl:xs.length<=1000000):
  Ct Tryz.prog 97 [fV F,.c (.sl 2 1 0 xs.length (xs.length+sp)),.b bk] [] ((2,.arr true 3 .int xs sp)::hpF F) 3
  (fun v s=> ∃ms:List Bool,v= .c (.sl 3 1 0 ms.length ms.length)/\s=⟨[],[(3,.arr true 4 .bool ms 0)],4⟩/\ms.length=F.st.toNat/\ ∀j,j<F.st.toNat->(ms.getD j false=true <-> Rch F.arcs bk xs j)):=by
 have hst:=hF.st
 have hal:=hF.arcl
 refine ctW Tryz.tyOk 12 [19,20,21] Tryz.func97 rfl (by simp) (by simp) (fr:= [(0,fV F),(1,.c (.sl 2 1 0 xs.length (xs.length+sp))),(2,.b bk)]) rfl ?_
 refine gO ?_
 refine aJ (fun z:Nat×List Sli×List (Addr×List Int×Nat)=>⟨[(1,.c (.sl 2 1 0 xs.length (xs.length+sp))),(2,.b bk),(3,.c (.ptr 3 0)),(7,.c (.sl 4 1 0 F.st.toNat F.st.toNat)),(8,.c (.sl 5 1 0 F.st.toNat F.st.toNat)),(19,.c (.sl 1 5 0 F.arcs.length F.capA)),(20,.i F.arcs.length),(21,.i z.1)],(2,.arr true 3 .int xs sp)::aDK F (List.replicate F.st.toNat false) z.2.1 z.2.2,7⟩)
  (fun z=>z.1<=F.arcs.length/\gG z.2.2 z.2.1 F.st.toNat (nxL F.arcs bk z.1)) (fun z=>F.arcs.length-z.1) (0,List.replicate F.st.toNat EK.sli.dflt,[]) [(6,none)] ⟨by rfl,?_,?_⟩ ⟨Nat.zero_le _,(Su _).cong fun j _=>rfl⟩ ?_
 ·simp
 ·simp[EK.dflt,cT]
 ·rintro⟨k,rows,m⟩ ⟨hk,htab⟩
  simp only at hk htab⊢
  have hrl:=htab.len
  (conv=>whnf)
  refine aG (fun hk2=>?_) (fun hk2=>?_)
  ·have e0:0+(k:Int).toNat=k:=by omega
   have hm:=aB F.arcs k aD (by omega)
   have hb:=hF.arc _ hm
   have hsr:=hF.src (bk:=bk) hm
   have hj:(dE bk (F.arcs.getD k aD)).toNat<F.st.toNat:=by omega
   have hhd:=htab.hd _ hj
   have hnl:=hhd.len
   rw[htab.row _ hj]at hnl
   have hll:=Ge (l:=F.arcs) (bk:=bk) (j:=(dE bk (F.arcs.getD k aD)).toNat) k
   cases bk with
   |true=>
    have hb1:0<=(F.arcs.getD (0+(k:Int).toNat) EK.arc.dflt).t/\(F.arcs.getD (0+(k:Int).toNat) EK.arc.dflt).t<F.st:=by rw[e0];exact⟨hb.2.2.1,hb.2.2.2⟩
    have hhd1:Hd m (rows.getD (0+(F.arcs.getD (0+(k:Int).toNat) EK.arc.dflt).t.toNat) EK.sli.dflt):=by rw[Nat.zero_add,e0];exact hhd
    have hnl1:(rows.getD (0+(F.arcs.getD (0+(k:Int).toNat) EK.arc.dflt).t.toNat) EK.sli.dflt).n<=k:=by rw[Nat.zero_add,e0];exact hnl▸hll
    refine gO ?_
    refine⟨?_,?_⟩
    ·exact⟨hhd1,by omega,by omega⟩
    ·intro m' h' happ
     have happ2:App m (rows.getD (dE true (F.arcs.getD k aD)).toNat EK.sli.dflt) [dW true (F.arcs.getD k aD)] m' h':=by
      rw[Nat.zero_add,e0]at happ
      exact happ
     have htab2:=(htab.app hj happ2).cong fun i _=>Qz (n:=0) hsr.1 i
     have es:(dE true (F.arcs.getD k aD)).toNat=0+(F.arcs.getD (0+(k:Int).toNat) EK.arc.dflt).t.toNat:=by rw[Nat.zero_add,e0];rfl
     rw[es]at htab2
     clear htab happ happ2 hhd hhd1 hnl hnl1
     refine gO ?_
     refine⟨(k+1,rows.set (0+(F.arcs.getD (0+(k:Int).toNat) EK.arc.dflt).t.toNat) h',m'),[],⟨by rfl,?_,?_⟩,⟨by simp only;omega,htab2⟩,by simp only;omega⟩
     ·simp
     ·simp
   |false=>
    have hb1:0<=(F.arcs.getD (0+(k:Int).toNat) EK.arc.dflt).f/\(F.arcs.getD (0+(k:Int).toNat) EK.arc.dflt).f<F.st:=by rw[e0];exact⟨hb.1,hb.2.1⟩
    have hhd1:Hd m (rows.getD (0+(F.arcs.getD (0+(k:Int).toNat) EK.arc.dflt).f.toNat) EK.sli.dflt):=by rw[Nat.zero_add,e0];exact hhd
    have hnl1:(rows.getD (0+(F.arcs.getD (0+(k:Int).toNat) EK.arc.dflt).f.toNat) EK.sli.dflt).n<=k:=by rw[Nat.zero_add,e0];exact hnl▸hll
    refine gO ?_
    refine⟨?_,?_⟩
    ·exact⟨hhd1,by omega,by omega⟩
    ·intro m' h' happ
     have happ2:App m (rows.getD (dE false (F.arcs.getD k aD)).toNat EK.sli.dflt) [dW false (F.arcs.getD k aD)] m' h':=by
      rw[Nat.zero_add,e0]at happ
      exact happ
     have htab2:=(htab.app hj happ2).cong fun i _=>Qz (n:=0) hsr.1 i
     have es:(dE false (F.arcs.getD k aD)).toNat=0+(F.arcs.getD (0+(k:Int).toNat) EK.arc.dflt).f.toNat:=by rw[Nat.zero_add,e0];rfl
     rw[es]at htab2
     clear htab happ happ2 hhd hhd1 hnl hnl1
     refine gO ?_
     refine⟨(k+1,rows.set (0+(F.arcs.getD (0+(k:Int).toNat) EK.arc.dflt).f.toNat) h',m'),[],⟨by rfl,?_,?_⟩,⟨by simp only;omega,htab2⟩,by simp only;omega⟩
     ·simp
     ·simp
  ·have e:k=F.arcs.length:=by omega
   subst e
   have hL: ∀j,(nxL F.arcs bk F.arcs.length j).length<=100000:=fun j=>Nat.le_trans (Ge _) hal
   have hP0:=Qp (ms:=List.replicate F.st.toNat false) hL F.st.toNat
   generalize hpt:yZ (fun j=>(nxL F.arcs bk F.arcs.length j).length) (List.replicate F.st.toNat false) F.st.toNat=P0 at hP0
   refine gO ?_
   refine aJ (fun z:List Int×List Int×Nat×Nat×List Bool=>⟨[(1,.c (.sl 7 1 0 z.1.length z.2.2.2.1)),(7,.c (.sl 4 1 0 F.st.toNat F.st.toNat)),(8,.c (.sl 5 1 0 F.st.toNat F.st.toNat))],(7,.arr true 3 .int (z.1++z.2.1) z.2.2.1)::aDK F z.2.2.2.2 rows m,8⟩)
    (fun z=>nQ F.arcs bk xs F.st.toNat z.2.2.2.2 z.1/\z.2.2.2.1<=z.1.length+z.2.1.length+z.2.2.1/\z.1.length<=z.2.2.2.1/\z.1.length+yZ (fun j=>(nxL F.arcs bk F.arcs.length j).length) z.2.2.2.2 F.st.toNat<=xs.length+P0) (fun z=>z.1.length+yZ (fun j=>(nxL F.arcs bk F.arcs.length j).length) z.2.2.2.2 F.st.toNat) (xs,[],sp,xs.length+sp,List.replicate F.st.toNat false) [(7,some 2)] ⟨by rfl,?_,?_⟩ ⟨nQ.start hx,by simp,by simp,by simp only[hpt];exact Nat.le_refl _⟩ ?_
   ·simp
   ·simp
   ·rintro⟨st,junk,sp2,cap,ms⟩ ⟨hinv,hcap,hlc,hpo⟩
    simp only at hinv hcap hlc hpo⊢
    have hml:=hinv.len
    have hP1:P0<=10000000000:=by omega
    have hnil:st=[]\/ ∃l x,st=l++[x]:=by
     rcases st.eq_nil_or_concat with h|⟨l,x,h⟩
     ·exact .inl h
     ·exact .inr ⟨l,x,by rw[h,List.concat_eq_append]⟩
    rcases hnil with rfl|⟨st,x,rfl⟩
    ·refine gI ?_
     exact⟨[(3,some 4)],[(3,.arr true 4 .bool ms 0)],4,.c (.sl 3 1 0 ms.length ms.length),⟨by rfl,trivial,by simp⟩,by simp[hml],ms,rfl,rfl,hml,fun j hj=>hinv.done (fun a ha=>hF.src ha) hx hj⟩
    ·have ee:((st++[x]++junk).getD (0+(((st++[x]).length:Int)-1).toNat) EK.int.dflt)=x:=by
      have e1:0+(((st++[x]).length:Int)-1).toNat=st.length:=by simp
      rw[e1,List.append_assoc]
      simp[List.getD]
     have hxr:=hinv.rng x (by simp)
     have hr0:= @id (@LE.le Int _ 0 ((st++[x]++junk).getD (0+(((st++[x]).length:Int)-1).toNat) EK.int.dflt)) (by rw[ee];exact hxr.1)
     have hr1:= @id (@LT.lt Int _ ((st++[x]++junk).getD (0+(((st++[x]).length:Int)-1).toNat) EK.int.dflt) (F.st.toNat:Int)) (by rw[ee];exact hxr.2)
     have hhd:Hd m (rows.getD (0+Int.toNat ((st++[x]++junk).getD (0+(((st++[x]).length:Int)-1).toNat) EK.int.dflt)) EK.sli.dflt):=htab.hd _ (by omega)
     have hrw:aM m (rows.getD (0+Int.toNat ((st++[x]++junk).getD (0+(((st++[x]).length:Int)-1).toNat) EK.int.dflt)) EK.sli.dflt).a=nxL F.arcs bk F.arcs.length x.toNat:=by rw[htab.row _ (by omega),ee,Nat.zero_add]
     have hnn:=hhd.len
     rw[hrw]at hnn
     have hnl:=hL x.toNat
     have hsl:(st++[x]).length=st.length+1:=by simp
     have hA:(((st++[x]).length:Int)-1-0).toNat=st.length:=by simp
     have hsb0:sub (st++[x]++junk) 0 st.length=st:=by simp[sub]
     have hsb:sub (st++[x]++junk) (0+Int.toNat 0) st.length=st:=hsb0
     rw[hsl]at hpo hlc hcap
     refine gO ?_
     refine fun h h=>⟨fun h=>?_,fun h=>?_⟩
     ·intro sp3
      refine gO ?_
      rw[ee,Nat.zero_add]at h
      have hmk2:ms.getD x.toNat false≠true:=by
       intro q
       rw[show EK.bool.dflt=false from rfl,q]at h
       cases h
      have hps:=Ix (L:=fun j=>(nxL F.arcs bk F.arcs.length j).length) (i:=x.toNat) (by omega) hmk2 F.st.toNat
      rw[if_pos (by omega)]at hps
      simp only[ee]at hrw hnn
      simp only[hA,ee,hsb,hsb0,hrw,hnn]
      refine⟨(st++nxL F.arcs bk F.arcs.length x.toNat,[],sp3,(st++nxL F.arcs bk F.arcs.length x.toNat).length+sp3,ms.set x.toNat true),[(7,some 8)],⟨by rfl,?_,?_⟩,⟨hinv.mark fun a ha=>hF.src ha,?_,?_,?_⟩,?_⟩
      ·simp[List.length_append]
      ·simp[List.append_nil,lOp.appL]
      all_goals simp only[List.length_append,List.length_cons,List.length_nil]at*
      all_goals omega
     ·rw[ee,Nat.zero_add]at h
      have hmk2:ms.getD x.toNat false=true:=by
       rw[show EK.bool.dflt=false from rfl]at h
       simpa using h
      simp only[hA]
      refine⟨(st,x::junk,sp2,cap,ms),[],⟨by rfl,?_,?_⟩,⟨hinv.pass hmk2,?_,?_,?_⟩,?_⟩
      ·simp
      ·simp
      all_goals simp only[List.length_append,List.length_cons,List.length_nil]at*
      all_goals omega
def eI (c:List Int) (k:Nat):List Int:=((List.range k).filter fun v=>c.getD v 0==0).map fun v:Nat=>(v:Int)
theorem wP (c:List Int) (k:Nat):eI c (k+1)=if c.getD k 0=0 then eI c k++[(k:Int)]else eI c k:=by
 unfold eI
 rw[List.range_succ,List.filter_append,List.map_append]
 by_cases h:c.getD k 0=0
 ·rw[if_pos h]
  simp only[List.filter_cons,h,beq_self_eq_true,if_true,List.filter_nil,List.map_cons,List.map_nil]
 ·rw[if_neg h]
  simp only[List.filter_cons,beq_eq_false_iff_ne.2 h,Bool.false_eq_true,if_false,List.filter_nil,List.map_nil,List.append_nil]
theorem Ma (c:List Int) (k:Nat):(eI c k).length<=k:=by
 unfold eI
 rw[List.length_map]
 have:=List.length_filter_le (fun v=>c.getD v 0==0) (List.range k)
 simpa using this
theorem rH {c:List Int} {k:Nat} {x:Int}:x∈eI c k <-> ∃v:Nat,v<k/\c.getD v 0=0/\x=(v:Int):=by
 unfold eI
 simp only[List.mem_map,List.mem_filter,List.mem_range,beq_iff_eq]
 constructor
 ·rintro⟨v,⟨h1,h2⟩,rfl⟩;exact⟨v,h1,h2,rfl⟩
 ·rintro⟨v,h1,h2,rfl⟩;exact⟨v,⟨h1,h2⟩,rfl⟩
theorem Sq (c:List Int) (k:Nat):(eI c k).Nodup:=by
 induction k with
 |zero=>simp[eI]
 |succ k ih=>
  rw[wP]
  split
  ·rw[List.nodup_append]
   refine⟨ih,by simp,fun a ha b hb=>?_⟩
   obtain⟨v,hv,_,rfl⟩:=rH.1 ha
   simp only[List.mem_singleton]at hb
   omega
  ·exact ih
def nJ (l:List Arc) (n k:Nat) (c:List Int):Prop:=c.length=n/\ ∀v:Nat,v<n->c.getD v 0=(cin k fun i=>(l.getD i aD).t==(v:Int):Nat)
theorem nJ.start (l:List Arc) (n:Nat):nJ l n 0 (List.replicate n 0):=by
 refine⟨by simp,fun v hv=>?_⟩
 simp[List.getD,hv,cin]
theorem nJ.step {l:List Arc} {n k:Nat} {c:List Int} (h:nJ l n k c) (ht:0<=(l.getD k aD).t/\(l.getD k aD).t<n):nJ l n (k+1) (c.set (l.getD k aD).t.toNat (c.getD (l.getD k aD).t.toNat 0+1)):=by
 refine⟨by simp[h.1],fun v hv=>?_⟩
 rw[fD]
 have hs:(c.set (l.getD k aD).t.toNat (c.getD (l.getD k aD).t.toNat 0+1)).getD v 0=if v=(l.getD k aD).t.toNat then c.getD (l.getD k aD).t.toNat 0+1 else c.getD v 0:=bV _ _ _ _ v (by rw[h.1];omega)
 rw[hs]
 by_cases e:v=(l.getD k aD).t.toNat
 ·rw[if_pos e,<-e,h.2 v hv,if_pos (by rw[beq_iff_eq];omega)]
  omega
 ·rw[if_neg e,h.2 v hv,if_neg (by rw[beq_iff_eq];omega)]
  omega
theorem nJ.kh {l:List Arc} {n:Nat} {c:List Int} (h:nJ l n l.length c):Kh l n [] (eI c n) c:=by
 refine⟨h.1,fun v hv=>?_,by simpa using Sq c n,fun v hv=>?_,fun v hv=>?_,fun a _ i hi=>by simp at hi⟩
 ·obtain⟨w,hw,_,rfl⟩:=rH.1 (by simpa using hv)
  omega
 ·rw[h.2 v hv]
  congr 1
  apply kD
  intro i _
  simp
 ·rw[List.nil_append,rH]
  constructor
  ·intro h0;exact⟨v,hv,h0,rfl⟩
  ·rintro⟨w,_,h0,e⟩
   have:v=w:=by omega
   subst this;exact h0
theorem Eo (F:TF) (hF:FRng F):Ct Tryz.prog 94 [fV F] [] (hpF F) 2 (Is 2 (.b (dS F.arcs F.st.toNat))):=by
 have hst:=hF.st
 have hal:=hF.arcl
 refine ctW Tryz.tyOk 13 [17,18,19,31,32,33,62,63,64] Tryz.func94 rfl (by simp) (by simp) (fr:= [(0,fV F)]) rfl ?_
 refine gO ?_
 refine aJ (fun z:Nat×List Int=>⟨[(1,.c (.ptr 2 0)),(2,.b false),(3,.c (.sl 3 1 0 F.st.toNat F.st.toNat)),(17,.c (.sl 1 5 0 F.arcs.length F.capA)),(18,.i F.arcs.length),(19,.i z.1)],hpF F++[(2,.box 25 (aA F)),(3,.arr true 3 .int z.2 0)],4⟩)
  (fun z=>z.1<=F.arcs.length/\nJ F.arcs F.st.toNat z.1 z.2) (fun z=>F.arcs.length-z.1) (0,List.replicate F.st.toNat 0) [] ⟨by rfl,?_,?_⟩ ⟨Nat.zero_le _,nJ.start _ _⟩ ?_
 ·simp
 ·simp[aA,EK.dflt]
 ·rintro⟨k,c⟩ ⟨hk,hc⟩
  simp only at hk hc⊢
  have hcl:=hc.1
  (conv=>whnf)
  refine aG (fun hk2=>?_) (fun hk2=>?_)
  ·have e0:0+(k:Int).toNat=k:=by omega
   have hb:=hF.arc _ (aB F.arcs k aD (by omega))
   have hb1:0<=(F.arcs.getD (0+(k:Int).toNat) EK.arc.dflt).t/\(F.arcs.getD (0+(k:Int).toNat) EK.arc.dflt).t<F.st:=by rw[e0];exact⟨hb.2.2.1,hb.2.2.2⟩
   have hs:=hc.step (k:=k) ⟨hb.2.2.1,by omega⟩
   have hv:=hc.2 (F.arcs.getD k aD).t.toNat (by omega)
   have hcb:=sG k fun i=>(F.arcs.getD i aD).t==(((F.arcs.getD k aD).t.toNat:Nat):Int)
   have hv1:0<=c.getD (0+(F.arcs.getD (0+(k:Int).toNat) EK.arc.dflt).t.toNat) EK.int.dflt/\c.getD (0+(F.arcs.getD (0+(k:Int).toNat) EK.arc.dflt).t.toNat) EK.int.dflt<=100000:=by
    rw[e0,Nat.zero_add]
    have:c.getD (F.arcs.getD k EK.arc.dflt).t.toNat EK.int.dflt=_:=hv
    rw[this]
    omega
   refine gO ?_
   refine⟨(k+1,c.set (0+(F.arcs.getD (0+(k:Int).toNat) EK.arc.dflt).t.toNat) (c.getD (0+(F.arcs.getD (0+(k:Int).toNat) EK.arc.dflt).t.toNat) EK.int.dflt+1)),[],⟨by rfl,?_,?_⟩,⟨by simp only;omega,?_⟩,by simp only;omega⟩
   ·simp
   ·simp[aA]
   ·simp only
    rw[e0,Nat.zero_add]
    exact hs
  ·have e:k=F.arcs.length:=by omega
   subst e
   refine gO ?_
   refine aJ (fun z:Nat×Nat=>⟨[(1,.c (.ptr 2 0)),(2,.b false),(3,.c (.sl 3 1 0 F.st.toNat F.st.toNat)),(6,.c (.sl 4 1 0 (eI c z.1).length ((eI c z.1).length+z.2))),(31,.c (.sl 3 1 0 F.st.toNat F.st.toNat)),(32,.i (F.st.toNat:Nat)),(33,.i z.1)],hpF F++[(2,.box 25 (aA F)),(3,.arr true 3 .int c 0),(4,.arr true 3 .int (eI c z.1) z.2)],5⟩)
    (fun z=>z.1<=F.st.toNat) (fun z=>F.st.toNat-z.1) (0,0) [(4,none)] ⟨by rfl,?_,?_⟩ (Nat.zero_le _) ?_
   ·simp[eI]
   ·simp[aA,cT,eI]
   ·rintro⟨k,sp⟩ hk3
    simp only at hk3⊢
    have hzl:=Ma c k
    have hzs:=wP c k
    generalize hz:eI c k=zl at hzl hzs⊢
    (conv=>whnf)
    refine aG (fun hk4=>?_) (fun hk4=>?_)
    ·have e0:0+(k:Int).toNat=k:=by omega
     refine gO ?_
     refine⟨fun h=>?_,fun h=>?_⟩
     ·rw[e0]at h
      rw[if_pos (show c.getD k 0=0 from h)]at hzs
      intro sp2
      refine gO ?_
      refine⟨(k+1,sp2),[(4,some 6)],⟨by rfl,?_,?_⟩,by simp only;omega,by simp only;omega⟩
      ·simp[hzs]
      ·simp[aA,hzs]
       simp[aV]
     ·rw[e0]at h
      rw[if_neg (show¬c.getD k 0=0 from h)]at hzs
      (conv=>whnf)
      refine⟨(k+1,sp),[],⟨by rfl,?_,?_⟩,by simp only;omega,by simp only;omega⟩
      ·simp[hzs]
      ·simp[aA,hzs]
    ·have e:k=F.st.toNat:=by omega
     subst e
     have hkh:=hc.kh
     rw[hz]at hkh
     clear hz hzs
     refine gO ?_
     refine aJ (fun z:List Int×List Int×List Int×Nat×Nat×List Int=>⟨[(1,.c (.ptr 2 0)),(2,.b false),(3,.c (.sl 3 1 0 F.st.toNat F.st.toNat)),(6,.c (.sl 4 1 0 z.2.1.length z.2.2.2.2.1)),(9,.i (jG F.st.toNat z.1))],hpF F++[(2,.box 25 (aA F)),(3,.arr true 3 .int z.2.2.2.2.2 0),(4,.arr true 3 .int (z.2.1++z.2.2.1) z.2.2.2.1)],5⟩)
      (fun z=>Kh F.arcs F.st.toNat z.1 z.2.1 z.2.2.2.2.2/\z.2.2.2.2.1<=z.2.1.length+z.2.2.1.length+z.2.2.2.1/\z.2.1.length<=z.2.2.2.2.1) (fun z=>F.st.toNat-jG F.st.toNat z.1) ([],zl,[],sp,zl.length+sp,c) [] ⟨by rfl,?_,?_⟩ ⟨hkh,by simp,by simp⟩ ?_
     ·simp[jG,cin]
     ·simp[aA]
     ·clear hkh hzl hc hcl
      rintro⟨R,st,junk,sp,cap,c⟩ ⟨hkh,hcap,hlc⟩
      simp only at hkh hcap hlc⊢
      have hcl:=hkh.len
      have hgl:=mC F.st.toNat R
      have hnil:st=[]\/ ∃l x,st=l++[x]:=by
       rcases st.eq_nil_or_concat with h|⟨l,x,h⟩
       ·exact .inl h
       ·exact .inr ⟨l,x,by rw[h,List.concat_eq_append]⟩
      rcases hnil with rfl|⟨st,x,rfl⟩
      ·have hrd:=hkh.round fun a ha=>by have:=hF.arc a ha;omega
       refine gO ?_
       refine aQ.is ?_
       rw[<-hrd]
       simp only[eqV,eqA,eqC]
       apply decide_eq_decide.2
       omega
      ·have hm:=hkh.pop
       have hgx:=hm.gone
       have hgl2:=mC F.st.toNat (R++[x])
       have hxr:=hm.rng x (by simp)
       have hsl:(st++[x]).length=st.length+1:=by simp
       have ee:((st++[x]++junk).getD (0+(((st++[x]).length:Int)-1).toNat) EK.int.dflt)=x:=by
        have e1:0+(((st++[x]).length:Int)-1).toNat=st.length:=by simp
        rw[e1,List.append_assoc]
        simp[List.getD]
       have hA:(((st++[x]).length:Int)-1-0).toNat=st.length:=by simp
       have hst2:st.length<=100000:=by
        have h1:=tV (n:=F.st.toNat) (List.nodup_append.1 hkh.nd).2.1 (fun v hv=>hkh.rng v (List.mem_append_right _ hv))
        have h2:=mC F.st.toNat (st++[x])
        omega
       rw[hsl]at hcap hlc
       refine gO ?_
       intro h h
       simp only[ee,hA]
       refine aJ (fun y:Nat×List Int×List Int×Nat×Nat×List Int=>⟨[(1,.c (.ptr 2 0)),(2,.b false),(3,.c (.sl 3 1 0 F.st.toNat F.st.toNat)),(6,.c (.sl 4 1 0 y.2.1.length y.2.2.2.2.1)),(9,.i (jG F.st.toNat R+1)),(10,.i x),(62,.c (.sl 1 5 0 F.arcs.length F.capA)),(63,.i F.arcs.length),(64,.i y.1)],hpF F++[(2,.box 25 (aA F)),(3,.arr true 3 .int y.2.2.2.2.2 0),(4,.arr true 3 .int (y.2.1++y.2.2.1) y.2.2.2.1)],5⟩)
        (fun y=>y.1<=F.arcs.length/\KhM F.arcs F.st.toNat R x y.2.1 y.2.2.2.2.2 y.1/\y.2.2.2.2.1<=y.2.1.length+y.2.2.1.length+y.2.2.2.1/\y.2.1.length<=y.2.2.2.2.1) (fun y=>F.arcs.length-y.1) (0,st,x::junk,sp,cap,c) [] ⟨by rfl,?_,?_⟩ ⟨Nat.zero_le _,hm,by simp only[List.length_cons];omega,by simp only;omega⟩ ?_
       ·simp
       ·simp[aA]
       ·clear hm hkh hcap hlc ee hA hsl hcl hst2
        rintro⟨k,st,junk,sp,cap,c⟩ ⟨hk,hm,hcap,hlc⟩
        simp only at hk hm hcap hlc⊢
        have hcl:=hm.len
        have hst2:st.length<=100000:=by
         have h0:=(List.nodup_cons.1 (List.nodup_append.1 hm.nd).2.1).2
         have h1:=tV (n:=F.st.toNat) h0 (fun v hv=>hm.rng v (List.mem_append_right _ (List.mem_cons_of_mem _ hv)))
         have h2:=mC F.st.toNat st
         omega
        (conv=>whnf)
        refine aG (fun hk5=>?_) (fun hk5=>?_)
        ·have e0:0+(k:Int).toNat=k:=by omega
         have hb:=hF.arc _ (aB F.arcs k aD (by omega))
         have hb1:0<=(F.arcs.getD (0+(k:Int).toNat) EK.arc.dflt).t/\(F.arcs.getD (0+(k:Int).toNat) EK.arc.dflt).t<F.st:=by rw[e0];exact⟨hb.2.2.1,hb.2.2.2⟩
         by_cases hfx:(F.arcs.getD k aD).f=x
         ·obtain⟨hpos,hstp⟩:=hm.hit (by omega) hfx ⟨hb.2.2.1,by omega⟩
          have hv:=hm.cnt (F.arcs.getD k aD).t.toNat (by omega)
          have hcb:=sG F.arcs.length fun i=>(F.arcs.getD i aD).t==(((F.arcs.getD k aD).t.toNat:Nat):Int)&& !decide ((F.arcs.getD i aD).f∈R)&& !(decide (i<k)&&(F.arcs.getD i aD).f==x)
          have hv1:0<c.getD (0+(F.arcs.getD (0+(k:Int).toNat) EK.arc.dflt).t.toNat) EK.int.dflt/\c.getD (0+(F.arcs.getD (0+(k:Int).toNat) EK.arc.dflt).t.toNat) EK.int.dflt<=100000:=by
           rw[e0,Nat.zero_add]
           refine⟨hpos,?_⟩
           have:c.getD (F.arcs.getD k EK.arc.dflt).t.toNat EK.int.dflt=_:=hv
           rw[this]
           omega
          have hfx1:(F.arcs.getD (0+(k:Int).toNat) EK.arc.dflt).f=x:=by rw[e0];exact hfx
          refine gO ?_
          refine fun h=>⟨fun h=>?_,fun h=>?_⟩
          ·have hz:c.getD (F.arcs.getD k aD).t.toNat 0-1=0:=by
            rw[e0,Nat.zero_add]at h
            have h2:=bV c (F.arcs.getD k aD).t.toNat (c.getD (F.arcs.getD k aD).t.toNat 0-1) 0 (F.arcs.getD k aD).t.toNat (by omega)
            rw[if_pos rfl]at h2
            exact h2.symm.trans h
           rw[if_pos hz]at hstp
           intro sp2
           have hsb:st++[(F.arcs.getD k aD).t]=lOp.appL (sub (st++junk) 0 st.length) (sub [(F.arcs.getD k EK.arc.dflt).t] 0 1):=by
            simp[sub,lOp.appL]
            rfl
           refine gO ?_
           refine⟨(k+1,st++[(F.arcs.getD k aD).t],[],sp2,(st++[(F.arcs.getD k aD).t]).length+sp2,c.set (0+(F.arcs.getD (0+(k:Int).toNat) EK.arc.dflt).t.toNat) (c.getD (0+(F.arcs.getD (0+(k:Int).toNat) EK.arc.dflt).t.toNat) EK.int.dflt-1)),[(4,some 7)],⟨by rfl,?_,?_⟩,⟨by simp only;omega,?_,by simp,by simp⟩,by simp only;omega⟩
           ·simp
           ·simp[aA]
            exact hsb
           ·simp only
            rw[e0,Nat.zero_add]
            exact hstp
          ·have hz: ¬c.getD (F.arcs.getD k aD).t.toNat 0-1=0:=by
            rw[e0,Nat.zero_add]at h
            have h2:=bV c (F.arcs.getD k aD).t.toNat (c.getD (F.arcs.getD k aD).t.toNat 0-1) 0 (F.arcs.getD k aD).t.toNat (by omega)
            rw[if_pos rfl]at h2
            exact fun e=>h (h2.trans e)
           rw[if_neg hz]at hstp
           (conv=>whnf)
           refine⟨(k+1,st,junk,sp,cap,c.set (0+(F.arcs.getD (0+(k:Int).toNat) EK.arc.dflt).t.toNat) (c.getD (0+(F.arcs.getD (0+(k:Int).toNat) EK.arc.dflt).t.toNat) EK.int.dflt-1)),[],⟨by rfl,?_,?_⟩,⟨by simp only;omega,?_,hcap,hlc⟩,by simp only;omega⟩
           ·simp
           ·simp[aA]
           ·simp only
            rw[e0,Nat.zero_add]
            exact hstp
         ·have hfx1: ¬(F.arcs.getD (0+(k:Int).toNat) EK.arc.dflt).f=x:=by rw[e0];exact hfx
          have hstp:=hm.other hfx
          refine gO fun h=>?_
          refine⟨(k+1,st,junk,sp,cap,c),[],⟨by rfl,?_,?_⟩,⟨by simp only;omega,hstp,hcap,hlc⟩,by simp only;omega⟩
          ·simp
          ·simp[aA]
        ·have e:k=F.arcs.length:=by omega
         subst e
         have hd:=hm.done
         (conv=>whnf)
         refine⟨(R++[x],st,junk,sp,cap,c),[],⟨by rfl,?_,?_⟩,⟨hd,hcap,hlc⟩,by simp only;omega⟩
         ·simp[hgx]
         ·simp[aA]
theorem Ks: ∀(n u:Nat),u<=n->(Lib.decDigits u).length<=u+1
 |0,u,h=>by
  rw[Lib.decDigits,dif_pos (by omega)];simp
 |n+1,u,h=>by
  rw[Lib.decDigits]
  split
  ·simp
  ·have:=Ks n (u / 10) (by omega)
   simp only[List.length_append,List.length_cons,List.length_nil]
   omega
theorem eU {n B:Int} (h0:0<=n) (h1:n<=B):((Lib.itoa n).length:Int)<=B+1:=by
 unfold Lib.itoa
 rw[if_neg (by omega)]
 have:=Ks n.toNat n.toNat (Nat.le_refl _)
 omega
def kyB (l:List Duo):List UInt8:=l.flatMap fun e=>Lib.itoa e.a++[58]++Lib.itoa e.b++[32]
theorem Jn (l:List Duo) (k:Nat) (hk:k<l.length):kyB (l.take (k+1))=kyB (l.take k)++(Lib.itoa (l.getD k ⟨0,0⟩).a++[58]++Lib.itoa (l.getD k ⟨0,0⟩).b++[32]):=by
 unfold kyB
 rw[List.take_add_one,List.flatMap_append]
 congr 1
 simp[List.getD,hk]
structure DOk (B:Int) (l:List Duo):Prop where
 len:l.length<=1000
 rng: ∀e∈l,(0<=e.a/\e.a<=1000)/\0<=e.b/\e.b<=B
theorem aBC {l:List Duo} (h:DOk 10000000000000 l) (k:Nat):((kyB (l.take k)).length:Int)<=k*20000000000000:=by
 induction k with
 |zero=>simp[kyB]
 |succ k ih=>
  by_cases hk:k<l.length
  ·rw[Jn l k hk]
   have hr:=h.rng _ (aB l k ⟨0,0⟩ hk)
   have h1:=eU hr.1.1 hr.1.2
   have h2:=eU hr.2.1 hr.2.2
   simp only[List.length_append,List.length_cons,List.length_nil]
   omega
  ·rw[List.take_of_length_le (by omega),<-List.take_of_length_le (l:=l) (i:=k) (by omega)]
   omega
theorem aCm (x:Glo) (hx:gJ x) (l:List Duo) (cap:Nat) (hl:DOk 10000000000000 l):Ct Tryz.prog 143 [.c (.sl 0 2 0 l.length cap)] [] [(0,.arr false 151 .duo l 0),(1,aF x)] 2
  (fun v s=>v=stV (kyB l)/\s=⟨[],[(1,aF x)],2⟩):=by
 have hll:=hl.len
 refine ctW Tryz.tyOk 6 [6,7,8] Tryz.func143 rfl (by simp) (by simp) (fr:= [(0,.c (.sl 0 2 0 l.length cap))]) rfl ?_
 refine gO ?_
 refine aJ (fun k:Nat=>⟨[(3,stV (kyB (l.take k))),(6,.c (.sl 0 2 0 l.length cap)),(7,.i l.length),(8,.i k)],[(0,.arr false 151 .duo l 0),(1,aF x)],2⟩)
  (fun k=>k<=l.length) (fun k=>l.length-k) 0 [] ⟨by rfl,?_,?_⟩ (Nat.zero_le _) ?_
 ·simp[kyB,bs]
 ·simp[aF]
 ·intro k hk
  have hkl:=aBC hl k
  (conv=>whnf)
  refine aG (fun hk2=>?_) (fun hk2=>?_)
  ·have hks:=Jn l k (by omega)
   have e0:0+(k:Int).toNat=k:=by omega
   have hr:=hl.rng _ (aB l k ⟨0,0⟩ (by omega))
   have hr1:(0<=(l.getD (0+(k:Int).toNat) EK.duo.dflt).a/\(l.getD (0+(k:Int).toNat) EK.duo.dflt).a<=1000)/\0<=(l.getD (0+(k:Int).toNat) EK.duo.dflt).b/\(l.getD (0+(k:Int).toNat) EK.duo.dflt).b<=10000000000000:=by rw[e0];exact hr
   have hks2:kyB (l.take (k+1))=kyB (l.take k)++(Lib.itoa (l.getD (0+(k:Int).toNat) EK.duo.dflt).a++[58]++Lib.itoa (l.getD (0+(k:Int).toNat) EK.duo.dflt).b++[32]):=by rw[e0];exact hks
   have hi1:=eU hr1.1.1 hr1.1.2
   have hi2:=eU hr1.2.1 hr1.2.2
   clear hks hr
   generalize hky:kyB (l.take k)=ky at*
   refine gO ?_
   refine cF (iY x hx (l.getD (0+(k:Int).toNat) EK.duo.dflt).a (by omega) (by omega)) [1] Tryz.call79 ?_
   rintro _ _ ⟨rfl,rfl⟩
   have hfin:bs ky++((((⟨(Lib.itoa (l.getD (0+(k:Int).toNat) EK.duo.dflt).a).toArray⟩:ByteArray)++(⟨#[58]⟩:ByteArray))++(⟨(Lib.itoa (l.getD (0+(k:Int).toNat) EK.duo.dflt).b).toArray⟩:ByteArray))++(⟨#[32]⟩:ByteArray))=bs (kyB (l.take (k+1))):=by
    show bs ky++(((bs (Lib.itoa (l.getD (0+(k:Int).toNat) EK.duo.dflt).a)++bs [58])++bs (Lib.itoa (l.getD (0+(k:Int).toNat) EK.duo.dflt).b))++bs [32])=_
    rw[hks2]
    simp only[cX]
   refine gI ?_
   refine⟨?_,?_⟩
   ·show(bs (Lib.itoa (l.getD (0+(k:Int).toNat) EK.duo.dflt).a)).size+(bs [58]).size<=9223372036854775807
    simp only[aZ,List.length_cons,List.length_nil]
    omega
   (conv=>whnf)
   refine cF (iY x hx (l.getD (0+(k:Int).toNat) EK.duo.dflt).b (by omega) (by omega)) [1] Tryz.call79 ?_
   rintro _ _ ⟨rfl,rfl⟩
   refine gI ?_
   refine⟨?_,?_,?_,?_⟩
   ·show(bs (Lib.itoa (l.getD (0+(k:Int).toNat) EK.duo.dflt).a)++bs [58]).size+(bs (Lib.itoa (l.getD (0+(k:Int).toNat) EK.duo.dflt).b)).size<=9223372036854775807
    simp only[cX,aZ,List.length_append,List.length_cons,List.length_nil]
    omega
   ·show(bs (Lib.itoa (l.getD (0+(k:Int).toNat) EK.duo.dflt).a)++bs [58]++bs (Lib.itoa (l.getD (0+(k:Int).toNat) EK.duo.dflt).b)).size+(bs [32]).size<=9223372036854775807
    simp only[cX,aZ,List.length_append,List.length_cons,List.length_nil]
    omega
   ·show(bs ky).size+(bs (Lib.itoa (l.getD (0+(k:Int).toNat) EK.duo.dflt).a)++bs [58]++bs (Lib.itoa (l.getD (0+(k:Int).toNat) EK.duo.dflt).b)++bs [32]).size<=9223372036854775807
    simp only[cX,aZ,List.length_append,List.length_cons,List.length_nil]
    omega
   ·have hfin2:bs ky++(((bs (Lib.itoa (l.getD (0+(k:Int).toNat) EK.duo.dflt).a)++(⟨#[58]⟩:ByteArray))++bs (Lib.itoa (l.getD (0+(k:Int).toNat) EK.duo.dflt).b))++(⟨#[32]⟩:ByteArray))=bs (kyB (l.take (k+1))):=hfin
    rw[hfin2]
    refine⟨k+1,[],⟨by rfl,?_,?_⟩,by omega,by omega⟩
    ·simp
    ·simp
  ·have e:k=l.length:=by omega
   subst e
   rw[List.take_length]
   refine gO ?_
   exact⟨[],[(1,aF x)],2,stV (kyB l),⟨by rfl,trivial,by simp⟩,by simp,rfl,rfl⟩
abbrev dC (F:TF) (il nl cl:Nat) (ost osr:Int) (jf nf cf ir nr cr:Nat):List SC:= [.i F.st,.i F.start,.sl 0 1 0 F.fin.length F.capF,.sl 1 5 0 F.arcs.length F.capA,.mp 4,.sl il 1 0 nl cl,.i ost,.i osr,.sl jf 1 0 nf cf,.sl ir 5 0 nr cr]
abbrev LkC (es:List (Int×Int×Nat)) (m:CM):Prop:= ∀t:Int,@lkM EK.int.ty EK.int.ty (EK.instDeq .int) es t=m t
structure WOk (F:TF):Prop extends FRng F where
 w: ∀a∈F.arcs,0<=a.w/\a.w<=1000000000
 fin: ∀n∈F.fin,-1<=n/\n<=1000000000
theorem jJ {c:Int} {x:Duo} {st:CM×Int} {a:Arc} (h1:a.f=x.a) (h2:a.i=c):sbA c x st a=(uS st.1 a.t (x.b+a.w),fU st.2 (x.b+a.w)):=by unfold sbA;rw[if_pos ⟨h1,h2⟩]
theorem aA0 {c:Int} {x:Duo} {st:CM×Int} {a:Arc} (h1: ¬a.f=x.a):sbA c x st a=st:=by unfold sbA;rw[if_neg (fun h=>h1 h.1)]
theorem aAZ {c:Int} {x:Duo} {st:CM×Int} {a:Arc} (h1: ¬a.i=c):sbA c x st a=st:=by unfold sbA;rw[if_neg (fun h=>h1 h.2)]
section
variable {es:List (Int×Int×Nat)} {m:CM} {t v:Int} (clk:Nat)
theorem LkC.new (h:LkC es m) (ht: @lkM EK.int.ty EK.int.ty (EK.instDeq .int) es t=none):LkC (@bL EK.int.ty EK.int.ty (EK.instDeq .int) es clk t v).1 (uS m t v):=by
 intro u
 rw[fZ]
 have h2:=h t
 rw[ht]at h2
 unfold uS
 by_cases e:u=t
 ·rw[if_pos e,if_pos e,<-h2]
 ·rw[if_neg e,if_neg e,h u]
theorem LkC.less (h:LkC es m) {o:Int} (ht: @lkM EK.int.ty EK.int.ty (EK.instDeq .int) es t=some o) (hv:v<o):LkC (@bL EK.int.ty EK.int.ty (EK.instDeq .int) es clk t v).1 (uS m t v):=by
 intro u
 rw[fZ]
 have h2:=h t
 rw[ht]at h2
 unfold uS
 by_cases e:u=t
 ·rw[if_pos e,if_pos e,<-h2]
  simp only[if_pos hv]
 ·rw[if_neg e,if_neg e,h u]
theorem LkC.same (h:LkC es m) {o:Int} (ht: @lkM EK.int.ty EK.int.ty (EK.instDeq .int) es t=some o) (hv: ¬v<o):LkC es (uS m t v):=by
 intro u
 have h2:=h t
 rw[ht]at h2
 unfold uS
 by_cases e:u=t
 ·rw[if_pos e,<-h2,e,ht]
  simp only[if_neg hv]
 ·rw[if_neg e,h u]
end
theorem aCj (F:TF) (hF:WOk F) (s:List Duo) (B:Int) (hB:0<=B/\B<=10000000000000) (hs:SOk F B s) (cap:Nat) (c:Int) (nl cl nf cf nr cr:Nat) (ost osr:Int):
  Ct Tryz.prog 124 [.c (.ptr 2 0),.c (.sl 3 2 0 s.length cap),.i c] [] [(1,.arr false 55 .arc F.arcs 0),(2,.box 150 (dC F 5 nl cl ost osr 7 nf cf 8 nr cr)),(3,.arr false 151 .duo s 0)] 9
  (fun v st=> ∃sp,v= .tup [.c (.sl 9 2 0 (sbS F s c).length ((sbS F s c).length+sp)),.c (.i (sbB F s c))]/\st=⟨[],[(2,.box 150 (dC F 5 nl cl ost osr 7 nf cf 8 nr cr)),(9,.arr true 151 .duo (sbS F s c) sp)],10⟩):=by
 have hst:=hF.st
 have hal:=hF.arcl
 have hsl:=hs.len
 refine ctW Tryz.tyOk 21 [22,23,24,32,33,34,86,87] Tryz.func124 rfl (by simp) (by simp) (fr:= [(0,.c (.ptr 2 0)),(1,.c (.sl 3 2 0 s.length cap)),(2,.i c)]) rfl ?_
 refine gO ?_
 refine aJ (fun z:Nat×List (Int×Int×Nat)×Nat=>⟨[(0,.c (.ptr 2 0)),(2,.i c),(8,.c (.mp 9)),(9,.i (((s.take z.1).foldl (sbX F c) (fun _=>none,-1)).2)),(22,.c (.sl 3 2 0 s.length cap)),(23,.i s.length),(24,.i z.1)],[(1,.arr false 55 .arc F.arcs 0),(2,.box 150 (dC F 5 nl cl ost osr 7 nf cf 8 nr cr)),(3,.arr false 151 .duo s 0),(9,.map .int .int z.2.1 z.2.2)],10⟩)
  (fun z=>z.1<=s.length/\LkC z.2.1 ((s.take z.1).foldl (sbX F c) (fun _=>none,-1)).1) (fun z=>s.length-z.1) (0,[],0) [] ⟨by rfl,?_,?_⟩ ⟨Nat.zero_le _,fun t=>rfl⟩ ?_
 ·simp
 ·simp
 ·rintro⟨k,es,clk⟩ ⟨hk,hlk⟩
  simp only at hk hlk⊢
  have hbd:=Mn (c:=c) hs hB.1 hF.w k
  (conv=>whnf)
  refine aG (fun hk2=>?_) (fun hk2=>?_)
  ·have e0:0+(k:Int).toNat=k:=by omega
   have hks:=rZ (sbX F c) (fun _=>none,-1) s ⟨0,0⟩ k (by omega)
   have hx:=hs.rng _ (aB s k ⟨0,0⟩ (by omega))
   have hx1:((0<=(s.getD (0+(k:Int).toNat) EK.duo.dflt).a/\(s.getD (0+(k:Int).toNat) EK.duo.dflt).a<F.st)/\0<=(s.getD (0+(k:Int).toNat) EK.duo.dflt).b/\(s.getD (0+(k:Int).toNat) EK.duo.dflt).b<=B):=by rw[e0];exact hx
   have hks1:(s.take (k+1)).foldl (sbX F c) (fun _=>none,-1)=sbX F c ((s.take k).foldl (sbX F c) (fun _=>none,-1)) (s.getD (0+(k:Int).toNat) EK.duo.dflt):=by rw[e0];exact hks
   clear hks hx
   generalize hst0:(s.take k).foldl (sbX F c) (fun _=>none,-1)=st0 at*
   refine gO ?_
   generalize s.getD (0+(k:Int).toNat) EK.duo.dflt=x at*
   refine aJ (fun z:Nat×List (Int×Int×Nat)×Nat=>⟨[(0,.c (.ptr 2 0)),(2,.i c),(8,.c (.mp 9)),(9,.i (((F.arcs.take z.1).foldl (sbA c x) st0).2)),(11,.c (.ptr 10 0)),(22,.c (.sl 3 2 0 s.length cap)),(23,.i s.length),(24,.i k),(32,.c (.sl 1 5 0 F.arcs.length F.capA)),(33,.i F.arcs.length),(34,.i z.1)],[(1,.arr false 55 .arc F.arcs 0),(2,.box 150 (dC F 5 nl cl ost osr 7 nf cf 8 nr cr)),(3,.arr false 151 .duo s 0),(9,.map .int .int z.2.1 z.2.2),(10,.box 151 [.i x.a,.i x.b])],11⟩)
    (fun z=>z.1<=F.arcs.length/\LkC z.2.1 ((F.arcs.take z.1).foldl (sbA c x) st0).1) (fun z=>F.arcs.length-z.1) (0,es,clk) [] ⟨by rfl,?_,?_⟩ ⟨Nat.zero_le _,hlk⟩ ?_
   ·simp
   ·simp
   ·clear hlk
    rintro⟨j,es,clk⟩ ⟨hj,hlk⟩
    simp only at hj hlk⊢
    have hbj:=Xk (F:=F) (c:=c) (x:=x) hF.w hbd hx1.2.1 hx1.2.2 j
    (conv=>whnf)
    refine aG (fun hj2=>?_) (fun hj2=>?_)
    ·have ej:0+(j:Int).toNat=j:=by omega
     have hjs:=rZ (sbA c x) st0 F.arcs aD j (by omega)
     have hw:=hF.w _ (aB F.arcs j aD (by omega))
     have hw1:0<=(F.arcs.getD (0+(j:Int).toNat) EK.arc.dflt).w/\(F.arcs.getD (0+(j:Int).toNat) EK.arc.dflt).w<=1000000000:=by rw[ej];exact hw
     have hjs1:(F.arcs.take (j+1)).foldl (sbA c x) st0=sbA c x ((F.arcs.take j).foldl (sbA c x) st0) (F.arcs.getD (0+(j:Int).toNat) EK.arc.dflt):=by rw[ej];exact hjs
     clear hjs hw
     generalize hst1:(F.arcs.take j).foldl (sbA c x) st0=st1 at*
     refine gO ?_
     refine⟨fun h=>?_,fun h=>⟨fun h=>?_,fun h=>⟨fun h=>⟨fun h=>?_,fun h=>⟨fun h=>?_,fun h=>?_⟩⟩,fun h=>⟨fun h=>⟨fun h=>?_,fun h=>⟨fun h=>?_,fun h=>?_⟩⟩,fun h=>⟨fun h=>?_,fun h=>⟨fun h=>?_,fun h=>?_⟩⟩⟩⟩⟩⟩
     ·generalize F.arcs.getD (0+(j:Int).toNat) EK.arc.dflt=a at*
      rw[aA0 h]at hjs1
      refine⟨(j+1,es,clk),[],⟨by rfl,?_,?_⟩,⟨by simp only;omega,?_⟩,by simp only;omega⟩
      ·simp[hjs1]
      ·simp
      ·simp only
       rw[hjs1]
       exact hlk
     ·generalize F.arcs.getD (0+(j:Int).toNat) EK.arc.dflt=a at*
      rw[aAZ h]at hjs1
      refine⟨(j+1,es,clk),[],⟨by rfl,?_,?_⟩,⟨by simp only;omega,?_⟩,by simp only;omega⟩
      ·simp[hjs1]
      ·simp
      ·simp only
       rw[hjs1]
       exact hlk
     ·rename_i g1 g2 g3
      (conv=>whnf)
      generalize F.arcs.getD (0+(j:Int).toNat) EK.arc.dflt=a at*
      rw[jJ g1 g2]at hjs1
      have hub:fU st1.2 (x.b+a.w)=x.b+a.w:=by unfold fU;rw[if_pos (by omega)]
      have hn: @lkM EK.int.ty EK.int.ty (EK.instDeq .int) es a.t=none:=by
       cases hq: @lkM EK.int.ty EK.int.ty (EK.instDeq .int) es a.t with
       |none=>rfl
       |some o=>rw[hq]at g3;cases g3
      refine⟨(j+1,(@bL EK.int.ty EK.int.ty (EK.instDeq .int) es clk a.t (x.b+a.w)).1,(@bL EK.int.ty EK.int.ty (EK.instDeq .int) es clk a.t (x.b+a.w)).2),[],⟨by rfl,?_,?_⟩,⟨by simp only;omega,?_⟩,by simp only;omega⟩
      ·simp[hjs1,hub]
      ·simp
      ·simp only
       rw[hjs1]
       exact hlk.new clk hn
     ·rename_i g1 g2 g3 g0
      (conv=>whnf)
      generalize F.arcs.getD (0+(j:Int).toNat) EK.arc.dflt=a at*
      rw[jJ g1 g2]at hjs1
      have hub:fU st1.2 (x.b+a.w)=x.b+a.w:=by unfold fU;rw[if_pos (by omega)]
      have hn: @lkM EK.int.ty EK.int.ty (EK.instDeq .int) es a.t=none:=by
       cases hq: @lkM EK.int.ty EK.int.ty (EK.instDeq .int) es a.t with
       |none=>rfl
       |some o=>rw[hq]at g3;cases g3
      refine⟨(j+1,(@bL EK.int.ty EK.int.ty (EK.instDeq .int) es clk a.t (x.b+a.w)).1,(@bL EK.int.ty EK.int.ty (EK.instDeq .int) es clk a.t (x.b+a.w)).2),[],⟨by rfl,?_,?_⟩,⟨by simp only;omega,?_⟩,by simp only;omega⟩
      ·simp[hjs1,hub]
      ·simp
      ·simp only
       rw[hjs1]
       exact hlk.new clk hn
     ·rename_i g1 g2 g3 g0
      (conv=>whnf)
      generalize F.arcs.getD (0+(j:Int).toNat) EK.arc.dflt=a at*
      rw[jJ g1 g2]at hjs1
      have hub:fU st1.2 (x.b+a.w)=st1.2:=by unfold fU;rw[if_neg (by omega)]
      have hn: @lkM EK.int.ty EK.int.ty (EK.instDeq .int) es a.t=none:=by
       cases hq: @lkM EK.int.ty EK.int.ty (EK.instDeq .int) es a.t with
       |none=>rfl
       |some o=>rw[hq]at g3;cases g3
      refine⟨(j+1,(@bL EK.int.ty EK.int.ty (EK.instDeq .int) es clk a.t (x.b+a.w)).1,(@bL EK.int.ty EK.int.ty (EK.instDeq .int) es clk a.t (x.b+a.w)).2),[],⟨by rfl,?_,?_⟩,⟨by simp only;omega,?_⟩,by simp only;omega⟩
      ·simp[hjs1,hub]
      ·simp
      ·simp only
       rw[hjs1]
       exact hlk.new clk hn
     ·rename_i g1 g2 g3 g4
      (conv=>whnf)
      generalize F.arcs.getD (0+(j:Int).toNat) EK.arc.dflt=a at*
      rw[jJ g1 g2]at hjs1
      have hub:fU st1.2 (x.b+a.w)=x.b+a.w:=by unfold fU;rw[if_pos (by omega)]
      obtain⟨o,hn⟩: ∃o,@lkM EK.int.ty EK.int.ty (EK.instDeq .int) es a.t=some o:=by
       cases hq: @lkM EK.int.ty EK.int.ty (EK.instDeq .int) es a.t with
       |none=>rw[hq]at g3;cases g3
       |some o=>exact⟨o,rfl⟩
      rw[hn]at g4
      refine⟨(j+1,(@bL EK.int.ty EK.int.ty (EK.instDeq .int) es clk a.t (x.b+a.w)).1,(@bL EK.int.ty EK.int.ty (EK.instDeq .int) es clk a.t (x.b+a.w)).2),[],⟨by rfl,?_,?_⟩,⟨by simp only;omega,?_⟩,by simp only;omega⟩
      ·simp[hjs1,hub]
      ·simp
      ·simp only
       rw[hjs1]
       exact hlk.less clk hn g4
     ·rename_i g1 g2 g3 g4 g0
      (conv=>whnf)
      generalize F.arcs.getD (0+(j:Int).toNat) EK.arc.dflt=a at*
      rw[jJ g1 g2]at hjs1
      have hub:fU st1.2 (x.b+a.w)=x.b+a.w:=by unfold fU;rw[if_pos (by omega)]
      obtain⟨o,hn⟩: ∃o,@lkM EK.int.ty EK.int.ty (EK.instDeq .int) es a.t=some o:=by
       cases hq: @lkM EK.int.ty EK.int.ty (EK.instDeq .int) es a.t with
       |none=>rw[hq]at g3;cases g3
       |some o=>exact⟨o,rfl⟩
      rw[hn]at g4
      refine⟨(j+1,(@bL EK.int.ty EK.int.ty (EK.instDeq .int) es clk a.t (x.b+a.w)).1,(@bL EK.int.ty EK.int.ty (EK.instDeq .int) es clk a.t (x.b+a.w)).2),[],⟨by rfl,?_,?_⟩,⟨by simp only;omega,?_⟩,by simp only;omega⟩
      ·simp[hjs1,hub]
      ·simp
      ·simp only
       rw[hjs1]
       exact hlk.less clk hn g4
     ·rename_i g1 g2 g3 g4 g0
      (conv=>whnf)
      generalize F.arcs.getD (0+(j:Int).toNat) EK.arc.dflt=a at*
      rw[jJ g1 g2]at hjs1
      have hub:fU st1.2 (x.b+a.w)=st1.2:=by unfold fU;rw[if_neg (by omega)]
      obtain⟨o,hn⟩: ∃o,@lkM EK.int.ty EK.int.ty (EK.instDeq .int) es a.t=some o:=by
       cases hq: @lkM EK.int.ty EK.int.ty (EK.instDeq .int) es a.t with
       |none=>rw[hq]at g3;cases g3
       |some o=>exact⟨o,rfl⟩
      rw[hn]at g4
      refine⟨(j+1,(@bL EK.int.ty EK.int.ty (EK.instDeq .int) es clk a.t (x.b+a.w)).1,(@bL EK.int.ty EK.int.ty (EK.instDeq .int) es clk a.t (x.b+a.w)).2),[],⟨by rfl,?_,?_⟩,⟨by simp only;omega,?_⟩,by simp only;omega⟩
      ·simp[hjs1,hub]
      ·simp
      ·simp only
       rw[hjs1]
       exact hlk.less clk hn g4
     ·rename_i g1 g2 g3 g4
      (conv=>whnf)
      generalize F.arcs.getD (0+(j:Int).toNat) EK.arc.dflt=a at*
      rw[jJ g1 g2]at hjs1
      have hub:fU st1.2 (x.b+a.w)=x.b+a.w:=by unfold fU;rw[if_pos (by omega)]
      obtain⟨o,hn⟩: ∃o,@lkM EK.int.ty EK.int.ty (EK.instDeq .int) es a.t=some o:=by
       cases hq: @lkM EK.int.ty EK.int.ty (EK.instDeq .int) es a.t with
       |none=>rw[hq]at g3;cases g3
       |some o=>exact⟨o,rfl⟩
      rw[hn]at g4
      refine⟨(j+1,es,clk),[],⟨by rfl,?_,?_⟩,⟨by simp only;omega,?_⟩,by simp only;omega⟩
      ·simp[hjs1,hub]
      ·simp
      ·simp only
       rw[hjs1]
       exact hlk.same hn g4
     ·rename_i g1 g2 g3 g4 g0
      (conv=>whnf)
      generalize F.arcs.getD (0+(j:Int).toNat) EK.arc.dflt=a at*
      rw[jJ g1 g2]at hjs1
      have hub:fU st1.2 (x.b+a.w)=x.b+a.w:=by unfold fU;rw[if_pos (by omega)]
      obtain⟨o,hn⟩: ∃o,@lkM EK.int.ty EK.int.ty (EK.instDeq .int) es a.t=some o:=by
       cases hq: @lkM EK.int.ty EK.int.ty (EK.instDeq .int) es a.t with
       |none=>rw[hq]at g3;cases g3
       |some o=>exact⟨o,rfl⟩
      rw[hn]at g4
      refine⟨(j+1,es,clk),[],⟨by rfl,?_,?_⟩,⟨by simp only;omega,?_⟩,by simp only;omega⟩
      ·simp[hjs1,hub]
      ·simp
      ·simp only
       rw[hjs1]
       exact hlk.same hn g4
     ·rename_i g1 g2 g3 g4 g0
      (conv=>whnf)
      generalize F.arcs.getD (0+(j:Int).toNat) EK.arc.dflt=a at*
      rw[jJ g1 g2]at hjs1
      have hub:fU st1.2 (x.b+a.w)=st1.2:=by unfold fU;rw[if_neg (by omega)]
      obtain⟨o,hn⟩: ∃o,@lkM EK.int.ty EK.int.ty (EK.instDeq .int) es a.t=some o:=by
       cases hq: @lkM EK.int.ty EK.int.ty (EK.instDeq .int) es a.t with
       |none=>rw[hq]at g3;cases g3
       |some o=>exact⟨o,rfl⟩
      rw[hn]at g4
      refine⟨(j+1,es,clk),[],⟨by rfl,?_,?_⟩,⟨by simp only;omega,?_⟩,by simp only;omega⟩
      ·simp[hjs1,hub]
      ·simp
      ·simp only
       rw[hjs1]
       exact hlk.same hn g4
    ·have e:j=F.arcs.length:=by omega
     subst e
     rw[List.take_length]at hlk
     have hks2:(s.take (k+1)).foldl (sbX F c) (fun _=>none,-1)=F.arcs.foldl (sbA c x) st0:=hks1
     rw[List.take_length]
     refine gO ?_
     refine⟨(k+1,es,clk),[],⟨by rfl,?_,?_⟩,⟨by simp only;omega,?_⟩,by simp only;omega⟩
     ·simp[hks2]
     ·simp
     ·simp only
      rw[hks2]
      exact hlk
  ·have e:k=s.length:=by omega
   subst e
   rw[List.take_length]at hlk hbd
   rw[List.take_length]
   have hlk:LkC es (sbR F s c).1:=hlk
   have hbd:uM (B+1000000000) (sbR F s c):=hbd
   have hfold:s.foldl (sbX F c) (fun _=>none,-1)=sbR F s c:=rfl
   rw[hfold]
   have hmS:sbS F s c=sbL (sbR F s c).1 (sbR F s c).2 F.st.toNat:=rfl
   have hmB:sbB F s c=(sbR F s c).2:=rfl
   rw[hmS,hmB]
   clear hfold hmS hmB
   generalize sbR F s c=st at*
   refine gO ?_
   refine aJ (fun z:Nat×Nat=>⟨[(8,.c (.mp 9)),(9,.i st.2),(17,.c (.sl 10 2 0 (sbL st.1 st.2 z.1).length ((sbL st.1 st.2 z.1).length+z.2))),(86,.i F.st),(87,.i z.1)],[(2,.box 150 (dC F 5 nl cl ost osr 7 nf cf 8 nr cr)),(9,.map .int .int es clk),(10,.arr true 151 .duo (sbL st.1 st.2 z.1) z.2)],11⟩)
    (fun z=>(z.1:Int)<=F.st) (fun z=>F.st.toNat-z.1) (0,0) [(10,none)] ⟨by rfl,?_,?_⟩ (by simp only;omega) ?_
   ·simp[sbL]
   ·simp[cT,sbL]
   ·clear hk hk2
    rintro⟨k,sp⟩ hk
    simp only at hk⊢
    have hll:=Qd st.1 st.2 k
    have hls:=Xm st.1 st.2 k
    have hbk:=hbd.c (k:Int)
    have hl:=hlk (k:Int)
    have hb:=hbd.b
    generalize hql:sbL st.1 st.2 k=ql at hll hls⊢
    (conv=>whnf)
    refine aG (fun hk2=>?_) (fun hk2=>?_)
    ·cases hm:st.1 (k:Int)with
     |none=>
      rw[hm]at hl hls
      simp only at hls
      refine gO ?_
      refine⟨fun h=>⟨?_,?_⟩,fun h=>?_⟩
      all_goals try(rw[hl]at h;cases h;done)
      ·refine⟨(k+1,sp),[],⟨by rfl,?_,?_⟩,by simp only;omega,by simp only;omega⟩
       ·simp[hls]
       ·simp[hls]
     |some v=>
      rw[hm]at hl hls
      simp only at hls
      have hv:=hbk v hm
      have hg:(@lkM EK.int.ty EK.int.ty (EK.instDeq .int) es (k:Int)).getD EK.int.dflt=v:=by rw[hl];rfl
      have hg0: @LE.le Int _ 0 ((@lkM EK.int.ty EK.int.ty (EK.instDeq .int) es (k:Int)).getD EK.int.dflt)/\ @LE.le Int _ ((@lkM EK.int.ty EK.int.ty (EK.instDeq .int) es (k:Int)).getD EK.int.dflt) 20000000000000:=by rw[hg];exact⟨hv.1,by omega⟩
      refine gO ?_
      refine⟨fun h=>?_,fun h=>?_⟩
      all_goals try(rw[hl]at h;cases h;done)
      ·intro sp2
       refine gO ?_
       rw[hg]
       refine⟨(k+1,sp2),[(10,some 12)],⟨by rfl,?_,?_⟩,by simp only;omega,by simp only;omega⟩
       ·simp[hls]
       ·simp[hls]
        simp[aV]
    ·have e:k=F.st.toNat:=by omega
     subst e
     rw[<-hql]
     refine gO ?_
     exact⟨[(9,some 10)],[(2,.box 150 (dC F 5 nl cl ost osr 7 nf cf 8 nr cr)),(9,.arr true 151 .duo (sbL st.1 st.2 F.st.toNat) sp)],10,.tup [.c (.sl 9 2 0 (sbL st.1 st.2 F.st.toNat).length ((sbL st.1 st.2 F.st.toNat).length+sp)),.c (.i st.2)],⟨by rfl,trivial,by simp⟩,by simp,sp,rfl,rfl⟩
end Go.Fw
