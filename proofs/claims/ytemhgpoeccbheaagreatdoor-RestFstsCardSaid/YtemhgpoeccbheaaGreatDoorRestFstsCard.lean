/-
  What each operation answers is its own: changed, it changes nothing that was handed in, nor what comes next: the law RestFsts returns true at every input and leaves its arguments as they were. Seven variables of the library are listed, as the row says; the card ties them.
-/
import Derived.Test.YtemhgpoeccbheaaGreatDoorQ08
import Derived.Test.YtemhgpoeccbheaaGreatDoorQ20
import Derived.Carry
import Derived.ChangeMaps5
set_option linter.unusedSimpArgs false
set_option linter.unusedVariables false
set_option maxRecDepth 100000
set_option maxHeartbeats 16000000
namespace Go.Fw
open Go Go.Proofs Go.ChangeShapes Go.WideShapes Go.ChangeAt Go.RowKit Go.Deep Go.Joins
theorem aAG.call4G {W:World} {F G:TF} {a0 a1 a2 a3 a4 a5:Option Addr} {v v2:Value} (h:aAG W F a0 a1 v) (h':aAG W G a2 a3 v2) {g:Glo} (hg:Pf g W) {u w:List Int} (h4:xK W a4 .int u) (h5:xK W a5 .int w) {cu cw f:Nat}
  (hc:Ct Tryz.prog f [fV F,gV G,.c (.sl 4 1 0 u.length cu),.c (.sl 5 1 0 w.length cw)] [] (hpI F G u w g) 7 (fun v s=>v= .b true/\s=⟨[],[(6,aF g)],7⟩)):
  Calls Tryz.prog f #[v,v2,.slice a4 u.length cu,.slice a5 w.length cw] W fun e W'=>e= .returned (.bool true)/\Below W.heap.size W W':=by
 refine Zx hg (hp:=hpG F G++[(4,.arr false 3 .int u 0),(5,.arr false 3 .int w 0)]) (n:=6) (fun i=>if i=0 then a0 else if i=1 then a1 else if i=2 then a2 else if i=3 then a3 else if i=4 then a4 else a5) ?_ (fun id=>?_) ?_ hc
 ·intro id o hl
  simp only[hpG,List.cons_append,List.nil_append,aC]at hl
  repeat' split at hl
  ·rename_i e;subst e;cases hl;exact⟨by omega,3,.int,F.fin,rfl,h.l0,uC⟩
  ·rename_i e;subst e;cases hl;exact⟨by omega,55,.arc,F.arcs,rfl,h.l1,Lh⟩
  ·rename_i e;subst e;cases hl;exact⟨by omega,3,.int,G.fin,rfl,h'.l0,uC⟩
  ·rename_i e;subst e;cases hl;exact⟨by omega,55,.arc,G.arcs,rfl,h'.l1,Lh⟩
  ·rename_i e;subst e;cases hl;exact⟨by omega,3,.int,u,rfl,h4,uC⟩
  ·rename_i e;subst e;cases hl;exact⟨by omega,3,.int,w,rfl,h5,uC⟩
  ·cases hl
 ·simp only[hpI,hpG,List.cons_append,List.nil_append,aC]
  by_cases e0:0=id
  ·subst e0;simp
  ·by_cases e1:1=id
   ·subst e1;simp
   ·by_cases e2:2=id
    ·subst e2;simp
    ·by_cases e3:3=id
     ·subst e3;simp
     ·by_cases e4:4=id
      ·subst e4;simp
      ·by_cases e5:5=id
       ·subst e5;simp
       ·by_cases e6:6=id
        ·subst e6;simp
        ·simp[e0,e1,e2,e3,e4,e5,e6,aE]
 ·rw[h.val,h'.val]
  have hi: ∀o:Option Addr,o.map (fun x=>x.add 0)=o:=hid
  simp[fV,gV,SV.den,SA.den,SC.den,hi]
section
variable {H:Type} {enc:TypeId×Value->H} {w:World} {base:Nat} {spare:Nat->Bool} {held:Bool}
theorem Cp {P:Program} {t e:TypeId} {z:Nat} (ht:P.underlying t=some (.slice e)) (hb:P.bytesOf e=z) {fuel:Nat} {oa:Option Addr} {len cap:Nat} {y:DataW H×List MemPlace}
  (h:DataW.trod enc P w base spare held fuel t [.slice oa len cap]=some y) (hz: ∀n∈y.1.weights P t,n<=reachBytes):len*z<=reachBytes:=by
 rcases open_slice ht h with⟨hcs,_⟩|⟨a,len',cap',m,n,D,Pl,hcs,_,_,_,_,rfl,_⟩
 ·cases hcs
  omega
 ·cases hcs
  have h1:=hz ((((List.range len).map D).length+((List.range (m-len)).map fun j=>D (len+j)).length)*P.bytesOf e) (by simp[DataW.weights,ht])
  rw[hb,List.length_map,List.length_range]at h1
  exact Nat.le_trans (Nat.mul_le_mul_right z (Nat.le_add_right _ _)) h1
theorem zB {r:Go.Reach} {b0:Nat} {v:Value} {d:DataW H} {p:List MemPlace} (hv:Value.okWide Tryz.prog w r b0 25 v) (h:DataW.Trod enc Tryz.prog w base spare held 25 v d p) (hz: ∀n∈d.weights Tryz.prog 25,n<=reachBytes):
  ∃F a0 a1,aAG w F a0 a1 v/\F.fin.length*8<=140737488355328/\F.arcs.length*40<=140737488355328:=by
 obtain⟨F,a0,a1,hh⟩:=Tw hv h
 refine⟨F,a0,a1,hh,?_⟩
 obtain⟨v0,v1,v2,v3,y0,y1,y2,y3,n,e,rfl,_,_,_,h2,h3⟩:=open_agg4 Tryz.underlying25 (by kernel_rfl) (by kernel_rfl) hv h
 rw[hh.val]at e
 obtain⟨_,_,e2,e3⟩:Value.int .i64 F.st=v0/\Value.int .i64 F.start=v1/\Value.slice a0 F.fin.length F.capF=v2/\Value.slice a1 F.arcs.length F.capA=v3:=by simpa using e
 subst e2 e3
 have hr:reachBytes<=140737488355328:=by unfold reachBytes;omega
 have hw: ∀n,n∈y2.1.weights Tryz.prog 22\/n∈y3.1.weights Tryz.prog 23->n<=reachBytes:=fun n hn=>hz n (by
  simp only[DataW.weights,Tryz.underlying25,DataW.weightsEach,List.map_cons,List.map_nil,List.mem_append]
  rcases hn with hn|hn
  ·exact .inr (.inr (.inl hn))
  ·exact .inr (.inr (.inr (.inl hn))))
 exact⟨Nat.le_trans (Cp Tryz.underlying22 (by kernel_rfl) h2 fun n hn=>hw n (.inl hn)) hr,Nat.le_trans (Cp Tryz.underlying23 (by kernel_rfl) h3 fun n hn=>hw n (.inr hn)) hr⟩
end
theorem Gr {H:Type} {enc:TypeId×Value->H} {a:Assume} {C:Checked} {os:Os} {f:FuncId} {fn:Func} {s:ChangeSpec} {conds:List PathCond} {nO fresh handsOn again:Bool} {X:World->Array Value->Prop}
  (hX: ∀(w w':World) (args:Array Value),w.heap=w'.heap->X w args->X w' args)
  (own:ownKnob C.prog.godebug=none) (started:os.Started) (noInit:C.prog.inits.idxOf? f=none) (hfn:C.prog.funcs[f]?=some fn)
  (witness: ∃(w:World) (tape:Tape) (i:Input),w.os=os/\(w.forCall tape i).Shaped C.prog/\i.vars=[]/\Input.okWide C.prog (w.forCall tape i) .any w.heap.size f i/\
   ((s.pre enc C.prog fn conds nO (w.forCall tape i).memory i.args/\X (w.forCall tape i).memory i.args)/\sizedMet enc C.prog fn (OpenSpec.ofChange s) nO (w.forCall tape i).memory i.args)/\a.holds C.prog (lone (Frame.enter C.prog f i.args .normal) [] (w.forCall tape i)))
  (contract: ∀(W:World) (base:Nat) (args:Array Value) (ds gs:List (DataW H)) (before:List MemPlace),
   (∀(j:Nat) t v,fn.params[j]?=some t->args[j]?=some v->Value.okWide C.prog W .any base t v)->
   DataW.Whole enc C.prog fn.params.toList s.vars nO W args.toList ds gs before->
   (DataW.weightsEach C.prog (fn.params.toList++s.plain.varTypes C.prog) (ds++gs)).all (· <=reachBytes)=true->
   W.ShapedOpen C.prog->X W args->
   Calls C.prog f args W fun e W'=> ∃v,e= .returned v/\s.post enc C.prog fn nO fresh handsOn again W args v W'):
  ReturnsInHanded a C os f .any (fun w args=>(s.pre enc C.prog fn conds nO w args/\X w args)/\sizedMet enc C.prog fn (OpenSpec.ofChange s) nO w args) (s.post enc C.prog fn nO fresh handsOn again):=by
 refine returnsInHanded_of_calls own started noInit witness ?_
 intro w tape i _ hsh _ hok hpre hholds
 obtain⟨_,_,_,fn',hfn',_,_,_,_,hval⟩:=hok
 have e:fn'=fn:=Option.some.inj (hfn'.symm.trans hfn)
 subst e
 obtain⟨⟨⟨ds,gs,before,hw,hc⟩,hx⟩,hz⟩:=hpre
 have hw':=DataW.Whole.of_heap (w':=w.forCall tape i) (by rfl) hw
 refine(contract (w.forCall tape i) w.heap.size i.args ds gs before hval hw' (hz.weights hw) hsh (hX _ _ _ (by rfl) hx)).mono fun e W' ⟨v,he,hp⟩=>?_
 subst he
 exact ChangeSpec.post_blind hp
end Go.Fw
namespace Go.Proofs.YtemhgpoeccbheaaGreatDoor
open Go Go.Fw Go.ChangeShapes Go.WideShapes Go.ChangeAt Go.RowKit
theorem xG (os:Os) (started:os.Started) (H:Type) (enc:TypeId×Value->H):
  ReturnsInHanded {} Go.Proofs.Tryz.checked os 3 .any (fun w args=>(Rows.restFstsSpec.pre enc Go.Proofs.Tryz.prog Go.Proofs.Tryz.f3 [] false w args/\laidMetH Go.Proofs.Tryz.prog zR w)/\sizedMet enc Go.Proofs.Tryz.prog Go.Proofs.Tryz.f3 (OpenSpec.ofChange Rows.restFstsSpec) false w args)
   (Rows.restFstsSpec.post enc Go.Proofs.Tryz.prog Go.Proofs.Tryz.f3 false true false false):=by
 refine Gr (C:=Go.Proofs.Tryz.checked) (X:=fun w _=>laidMetH Go.Proofs.Tryz.prog zR w) (fun _ _ _ hh h=>h.of_heap hh) Tryz.own started (by kernel_rfl) Go.Proofs.Tryz.func3
  (ChangeSpec.witness_shaped (enc:=enc) (C:=Go.Proofs.Tryz.checked) (os:=os) (X:=fun w _=>laidMetH Go.Proofs.Tryz.prog zR w) false (World.laidAll Go.Proofs.Tryz.prog os zR) #[.agg #[.int .i64 0,.int .i64 0,.slice none 0 0,.slice none 0 0],.agg #[.int .i64 0,.int .i64 0,.slice none 0 0,.slice none 0 0],.slice none 0 0,.slice none 0 0] 8 (World.laidAll_os _ _ _) (World.shaped_of_ZipB (by kernel_rfl) (by kernel_rfl)) (by kernel_rfl) (by kernel_rfl) (by kernel_rfl) (aAk os _)) ?_
 intro W base args ds gs before hval0 hW hZ hS hL
 have hval: ∀(j:Nat) t v,Go.Proofs.Tryz.f3.params[j]?=some t->args[j]?=some v->Value.okWide Go.Proofs.Tryz.prog W .any base t v:=hval0
 have hW':=hW
 obtain⟨p,q,hA0,hV,rfl,_,_⟩:=hW
 have hA:DataW.TrodAll enc Go.Proofs.Tryz.prog W 0 (fun _=>true) true Go.Proofs.Tryz.f3.params.toList args.toList ds p:=hA0
 have hZ2:(DataW.weightsEach Go.Proofs.Tryz.prog (Go.Proofs.Tryz.f3.params.toList++Rows.restFstsSpec.plain.varTypes Go.Proofs.Tryz.prog) (ds++gs)).all (· <=reachBytes)=true:=hZ
 rw[Go.Proofs.Tryz.params3]at hA hval hZ2
 obtain⟨v,v2,v3,v4,d,d2,d3,d4,p1,p2,p3,p4,rfl,rfl,rfl,h0,h1,h2,h3⟩:=trodAll_four hA
 obtain⟨rfl,rfl⟩:=trodVars_none hV
 simp only[List.append_nil]at hW'
 have hlt: ∀x∈p1++(p2++(p3++p4)),x.block<W.heap.size:=fun x hx=>by simpa using hW'.lt x (by simpa using hx)
 have hwt: ∀n,n∈d.weights Go.Proofs.Tryz.prog 25\/n∈d2.weights Go.Proofs.Tryz.prog 25->n<=reachBytes:=fun n hn=>by
  have:=List.all_eq_true.1 hZ2 n (by
   rcases hn with hn|hn
   ·exact DataW.weights_mem_each (j:=0) (t:=25) (d:=d) rfl rfl n hn
   ·exact DataW.weights_mem_each (j:=1) (t:=25) (d:=d2) rfl rfl n hn)
  simpa using this
 obtain⟨F,a0,a1,hh,f1,f2⟩:=zB (hval 0 25 v rfl rfl) h0 fun n hn=>hwt n (.inl hn)
 obtain⟨G,a2,a3,hh2,g1,g2⟩:=zB (hval 1 25 v2 rfl rfl) h1 fun n hn=>hwt n (.inr hn)
 obtain⟨aa,la,ca,rfl⟩:=okWide_slice Go.Proofs.Tryz.underlying22 (hval 2 22 v3 rfl rfl)
 obtain⟨n2,h2'⟩:=id h2
 obtain⟨a4,us,cu,e2,l2,_,_,_,_⟩:=rR Go.Proofs.Tryz.underlying22 Go.Proofs.Tryz.underlying3 (by kernel_rfl) h2'
 obtain⟨ab,lb,cb,rfl⟩:=okWide_slice Go.Proofs.Tryz.underlying22 (hval 3 22 v4 rfl rfl)
 obtain⟨n3,h3'⟩:=id h3
 obtain⟨a5,vs,cv,e3,l3,_,_,_,_⟩:=rR Go.Proofs.Tryz.underlying22 Go.Proofs.Tryz.underlying3 (by kernel_rfl) h3'
 rw[e2]at h2 hW'⊢
 rw[e3]at h3 hW'⊢
 obtain⟨g,hg⟩:=aBm hL hS
 refine(hh.call4G hh2 hg l2 l3 (Mq F G us vs cu cv f1 f2 g1 g2 g hg.x)).mono fun e W' ⟨he,hn⟩=>?_
 subst he
 have k0:DataW.Trod enc Go.Proofs.Tryz.prog W' 0 (fun b=>decide (b<W.heap.size)) true 25 v d p1:=
  Below.trod Tryz.laidOut (by kernel_rfl) (of_decide_eq_true (by kernel_rfl)) h0 hn (fun x hx=>hlt x (by simp[hx]))
 have k1:DataW.Trod enc Go.Proofs.Tryz.prog W' 0 (fun b=>decide (b<W.heap.size)) true 25 v2 d2 p2:=
  Below.trod Tryz.laidOut (by kernel_rfl) (of_decide_eq_true (by kernel_rfl)) h1 hn (fun x hx=>hlt x (by simp[hx]))
 have k2:DataW.Trod enc Go.Proofs.Tryz.prog W' 0 (fun b=>decide (b<W.heap.size)) true 22 (.slice a4 us.length cu) d3 p3:=
  Below.trod Tryz.laidOut (by kernel_rfl) (of_decide_eq_true (by kernel_rfl)) h2 hn (fun x hx=>hlt x (by simp[hx]))
 have k3:DataW.Trod enc Go.Proofs.Tryz.prog W' 0 (fun b=>decide (b<W.heap.size)) true 22 (.slice a5 vs.length cv) d4 p4:=
  Below.trod Tryz.laidOut (by kernel_rfl) (of_decide_eq_true (by kernel_rfl)) h3 hn (fun x hx=>hlt x (by simp[hx]))
 exact⟨_,rfl,_,_,_,[],_,[],hW',trodAll_mk1 (Sz Go.Proofs.Tryz.underlying4),trodAll_mk4 k0 k1 k2 k3,rfl,hn.frame _,fun h=>by cases h⟩
theorem Fm:Rows.RestFstsSaid:=
 OpenClaim.holds_of_wide 3 Go.Proofs.Tryz.f3 rfl rfl rfl rfl rfl rfl rfl ⟨rfl,rfl,rfl,rfl,rfl⟩ rfl rfl rfl rfl rfl (by kernel_rfl) Go.Proofs.Tryz.func3 (by kernel_rfl)
  (of_decide_eq_true (by kernel_rfl)) (by unfold Func.isWrapper;first|(rw[if_pos (by decide+kernel)];kernel_rfl)|(rw[if_neg (by decide+kernel)];exact⟨rfl,rfl⟩))
  (fun os started H enc _=>xG os started H enc)
theorem restFsts_holds:Rows.RestFstsCardSaid:=
 Claim7.holds_tied_plain_at .later [] [.data,.data,.data,.data,.sentinel,.sentinel,.pinned] true (true, "a14e5af5878b363b73008b9da9104b8a396e8c8578a6970766230d48a0e9f18e") true
  Fm (fun _ h=>by cases h) (by kernel_rfl) (fun _ h=>by cases h) restFsts_row_tie rfl ⟨rfl,rfl⟩ (by kernel_rfl) rfl
  (fun f fn hf hfn=>by
   obtain rfl:f=3:=Option.some.inj ((show Go.Proofs.Tryz.prog.funcNamed "fareway/farewaylaw.RestFsts" =some 3 by kernel_rfl).symm.trans hf) |>.symm
   obtain rfl:fn=Go.Proofs.Tryz.f3:=(Option.some.inj (Go.Proofs.Tryz.func3.symm.trans hfn)).symm
   exact⟨by kernel_rfl,fun j t ht=>by
    rw[Go.Proofs.Tryz.params3]at ht
    have hm:t∈ [25,25,22,22]:=by simpa using Array.mem_of_getElem? ht
    have hall:([25,25,22,22].all fun u=> !Go.Proofs.Tryz.prog.wantsStandIn u)=true:=by kernel_rfl
    exact(show Go.Proofs.Tryz.prog.wantsStandIn t=false by simpa using List.all_eq_true.1 hall t hm)⟩)
  (by kernel_rfl)
end Go.Proofs.YtemhgpoeccbheaaGreatDoor
