/- Walks of the functions: what each computes. -/
import Derived.Test.YtemhgpoeccbheaaGreatDoorQ08
import Derived.Test.YtemhgpoeccbheaaGreatDoorQ06
set_option linter.unusedSimpArgs false
set_option linter.unusedVariables false
set_option maxRecDepth 100000
set_option maxHeartbeats 16000000
namespace Go.Fw
open Go Go.Proofs
theorem aB2 (a b:Arc):Ct Tryz.prog 47 [dK a,dK b] [] [] 0 (Is 0 (.b (bF a b))):=by
 refine ctW Tryz.tyOk 8 [] Tryz.func47 rfl (by simp) (by simp) (fr:= [(0,dK a),(1,dK b)]) rfl ?_
 (conv=>whnf)
 refine dR ?_
 repeat' (first|exact rfl|((conv=>whnf);first|refine cP (fun h=>?_) (fun h=>?_)|refine Ob.mk ?_ ?_|refine nX.mk ?_ ?_))
 all_goals (conv=>whnf)
 all_goals first|(refine aJ (fun k:Nat=>⟨[(4,.b false),(5,.c (.sl 2 1 0 4 4)),(6,.c (.sl 3 1 0 4 4)),(7,.i k)],[(2,.arr true 3 .int [a.f,a.i,a.o,a.t] 0),(3,.arr true 3 .int [b.f,b.i,b.o,b.t] 0)],4⟩) (fun k=>k<=4/\ ∀j,j<k-> [a.f,a.i,a.o,a.t].getD j 0=[b.f,b.i,b.o,b.t].getD j 0) (fun k=>4-k) 0 [] ⟨by rfl,?_,?_⟩ (by simp) ?_;(focus simp);(focus simp))|(refine aJ (fun k:Nat=>⟨[(4,.b false),(5,.c (.sl 2 1 0 4 4)),(6,.c (.sl 3 1 0 4 4)),(7,.i k)],[(2,.arr true 3 .int [a.f,a.i,a.o,a.t] 0),(3,.arr true 3 .int [b.f,b.i,b.o,b.t] 0)],4⟩) (fun k=>k<=4/\ ∀j,j<k-> [a.f,a.i,a.o,a.t].getD j 0=[b.f,b.i,b.o,b.t].getD j 0) (fun k=>4-k) 0 [(2,some 3),(3,some 2)] ⟨by rfl,?_,?_⟩ (by simp) ?_;(focus simp);(focus simp))
 all_goals intro k hk
 all_goals obtain⟨hk1,hk2⟩:=hk
 all_goals repeat' (first|exact rfl|((conv=>whnf);first|refine cP (fun h=>?_) (fun h=>?_)|refine Ob.mk ?_ ?_|refine nX.mk ?_ ?_))
 all_goals first|refine dR ?_|skip
 all_goals repeat' (first|exact rfl|((conv=>whnf);first|refine cP (fun h=>?_) (fun h=>?_)|refine Ob.mk ?_ ?_|refine nX.mk ?_ ?_))
 all_goals simp only[decide_eq_true_eq,decide_eq_false_iff_not,bne_iff_ne,ne_eq,bne_eq_false_iff_eq,EK.dflt,Nat.zero_add,Int.toNat_natCast]at*
 all_goals first|(simp only[List.length_cons,List.length_nil];omega)|(unfold InI;omega)|skip
 all_goals (conv=>whnf)
 all_goals first|refine dR ?_|skip
 all_goals repeat' (first|exact rfl|((conv=>whnf);first|refine cP (fun h=>?_) (fun h=>?_)|refine Ob.mk ?_ ?_|refine nX.mk ?_ ?_))
 all_goals first|(simp only[EK.dflt,Nat.zero_add,Int.toNat_natCast,List.length_cons,List.length_nil];omega)|skip
 all_goals (conv=>whnf)
 all_goals first|(refine aQ.is ?_;have h4:k=4:=(by omega);subst h4;simp only[eqV,eqA,eqC];exact Pc a b hk2)|(refine aQ.is ?_;simp only[eqV,eqA,eqC,EK.dflt,Nat.zero_add,Int.toNat_natCast];exact Vy a b k (by omega) hk2 h)|skip
 all_goals refine⟨k+1,[],⟨by rfl,by simp,by simp⟩,⟨by omega,fun j hj=>?_⟩,by omega⟩
 all_goals exact if e:j=k then e▸h else hk2 j (by omega)
abbrev hpC (F:TF):List (Nat×SO):= [(0,.arr false 3 .int F.fin 0),(1,.arr false 55 .arc F.arcs 0),(2,.box 25 [.i F.st,.i F.start,.sl 0 1 0 F.fin.length F.capF,.sl 1 5 0 F.arcs.length F.capA])]
theorem Ol (F:TF):Ct Tryz.prog 13 [fV F] [] (hpF F) 2 (Is 2 (.i (aL F))):=by
 refine ctW Tryz.tyOk 6 [] Tryz.func13 rfl (by simp) (by simp) (fr:= [(0,fV F)]) rfl ?_
 (conv=>whnf)
 refine cI (fS F.st 1 200) [] Tryz.call46 ?_
 refine gR ?_
 refine⟨fun h=>?_,fun h=>⟨?_,?_⟩⟩
 ·refine aQ.is ?_
  simp only[Bool.not_eq_true',decide_eq_false_iff_not]at h
  simp only[eqV,eqA,eqC,aL,if_pos h]
 ·simp only[Bool.not_eq_false',decide_eq_true_eq]at h
  unfold InI;omega
 simp only[Bool.not_eq_false',decide_eq_true_eq]at h
 have h1:=h
 clear h
 (conv=>whnf)
 refine cI (fS F.start 0 (F.st-1)) [] Tryz.call46 ?_
 refine gR ?_
 refine⟨fun h=>?_,fun h=>⟨fun h=>?_,fun h=>?_⟩⟩
 ·refine aQ.is ?_
  simp only[Bool.not_eq_true',decide_eq_false_iff_not]at h
  simp only[eqV,eqA,eqC,aL,if_neg (not_not_intro h1),if_pos h]
 ·refine aQ.is ?_
  rename_i h2
  simp only[Bool.not_eq_false',decide_eq_true_eq,bne_iff_ne]at h h2
  simp only[eqV,eqA,eqC,aL,if_neg (not_not_intro h1),if_neg (not_not_intro h2),if_pos h]
 rename_i h2
 simp only[Bool.not_eq_false',decide_eq_true_eq,bne_eq_false_iff_eq]at h h2
 have h3:=h
 clear h
 (conv=>whnf)
 refine aJ (fun k:Nat=>⟨[(1,.c (.ptr 2 0)),(2,.i 0),(3,.i k)],hpC F,3⟩) (fun k=>k<=F.fin.length/\ ∀n∈F.fin.take k,-1<=n/\n<=1000000000) (fun k=>F.fin.length-k) 0 [] ⟨by rfl,?_,?_⟩ (by simp) ?_
 ·simp
 ·simp
 ·intro k ⟨hk1,hk2⟩
  refine gR ?_
  refine⟨fun h=>⟨?_,?_,?_⟩,fun h=>⟨fun h=>?_,fun h=>?_⟩⟩
  ·simp only[decide_eq_true_eq]at h;omega
  ·simp only[decide_eq_true_eq]at h;omega
  ·simp only[decide_eq_true_eq]at h
   have hk:k<F.fin.length:=by omega
   (conv=>whnf)
   simp only[Nat.zero_add,Int.toNat_natCast,EK.dflt]
   refine cI (fS (F.fin.getD k 0) (-1) 1000000000) [] Tryz.call46 ?_
   refine gR ?_
   refine⟨fun h=>?_,fun h=>⟨?_,?_⟩⟩
   ·refine aQ.is ?_
    have hm:=aB F.fin k 0 hk
    simp only[Bool.not_eq_true',decide_eq_false_iff_not]at h
    have: ¬∀n∈F.fin,-1<=n/\n<=1000000000:=fun H=>h (H _ hm)
    simp only[eqV,eqA,eqC,aL,if_neg (not_not_intro h1),if_neg (not_not_intro h2),if_neg (not_not_intro h3),if_pos this]
   ·unfold InI;omega
   ·refine⟨k+1,[],⟨by rfl,?_,?_⟩,⟨hk,?_⟩,by omega⟩
    ·simp
    ·simp
    ·rw[aY F.fin k 0 hk]
     simp only[Bool.not_eq_false',decide_eq_true_eq]at h
     intro n hn
     simp only[List.mem_append,List.mem_singleton]at hn
     rcases hn with hn|rfl
     ·exact hk2 n hn
     ·exact h
  ·rename_i hf
   simp only[decide_eq_false_iff_not,decide_eq_true_eq]at h hf
   rw[List.take_of_length_le (by omega)]at hk2
   refine aQ.is ?_
   simp only[eqV,eqA,eqC,aL,if_neg (not_not_intro h1),if_neg (not_not_intro h2),if_neg (not_not_intro h3),if_neg (not_not_intro hk2),if_pos (show 3000<F.arcs.length by omega)]
  ·rename_i hf
   simp only[decide_eq_false_iff_not,decide_eq_true_eq]at h hf
   rw[List.take_of_length_le (by omega)]at hk2
   have h4:aL F=nN F.st none F.arcs:=by
    simp only[aL,if_neg (not_not_intro h1),if_neg (not_not_intro h2),if_neg (not_not_intro h3),if_neg (not_not_intro hk2),if_neg (show¬3000<F.arcs.length by omega)]
   have h5:F.arcs.length<=3000:=by omega
   clear hf h hk2 hk1
   (conv=>whnf)
   refine aJ (fun k:Nat=>⟨[(1,.c (.ptr 2 0)),(2,.i 0),(4,.i k)],hpC F,3⟩) (fun k=>k<=F.arcs.length/\aL F=nN F.st (if k=0 then none else some (F.arcs.getD (k-1) EK.arc.dflt)) (F.arcs.drop k)) (fun k=>F.arcs.length-k) 0 [] ⟨by rfl,?_,?_⟩ (by simp[h4]) ?_
   ·simp
   ·simp
   ·intro j ⟨hj1,hj2⟩
    refine gR ?_
    refine⟨fun h=>⟨?_,?_,?_,?_⟩,fun h=>?_⟩
    ·simp only[decide_eq_true_eq]at h;omega
    ·simp only[decide_eq_true_eq]at h;omega
    ·unfold InI;omega
    ·simp only[decide_eq_true_eq]at h
     have hj:j<F.arcs.length:=by omega
     clear h
     (conv=>whnf)
     simp only[Nat.zero_add,Int.toNat_natCast]
     have hd:F.arcs.drop j=F.arcs.getD j EK.arc.dflt::F.arcs.drop (j+1):=by
      rw[List.drop_eq_getElem_cons hj];simp[List.getD,hj]
     rw[hd,nC]at hj2
     have hnext: ∀v:Int,aL F=v->v=aL F:=fun _ h=>h.symm
     generalize hx:F.arcs.getD j EK.arc.dflt=x at hj2⊢
     refine cI (fS x.f 0 (F.st-1)) [] Tryz.call46 ?_
     refine gR ?_
     refine⟨fun h=>?_,fun h=>⟨?_,?_⟩⟩
     ·refine aQ.is ?_
      simp only[Bool.not_eq_true']at h
      simp only[eqV,eqA,eqC,hj2,kW,h]
      rfl
     ·unfold InI;omega
     simp only[Bool.not_eq_false']at h
     have a1:=h
     clear h
     (conv=>whnf)
     refine cI (fS x.t 0 (F.st-1)) [] Tryz.call46 ?_
     refine gR ?_
     refine⟨fun h=>?_,fun h=>?_⟩
     ·refine aQ.is ?_
      simp only[Bool.not_eq_true']at h
      simp only[eqV,eqA,eqC,hj2,kW,a1,h]
      rfl
     simp only[Bool.not_eq_false']at h
     have a2:kW F.st x=true:=by simp only[kW,a1,h];rfl
     clear h
     (conv=>whnf)
     refine cI (fS x.i 0 9) [] Tryz.call46 ?_
     refine gR ?_
     refine⟨fun h=>?_,fun h=>?_⟩
     ·refine aQ.is ?_
      simp only[Bool.not_eq_true']at h
      simp only[eqV,eqA,eqC,hj2,a2,iQ,h]
      rfl
     simp only[Bool.not_eq_false']at h
     have a3:=h
     clear h
     (conv=>whnf)
     refine cI (fS x.o 0 9) [] Tryz.call46 ?_
     refine gR ?_
     refine⟨fun h=>?_,fun h=>?_⟩
     ·refine aQ.is ?_
      simp only[Bool.not_eq_true']at h
      simp only[eqV,eqA,eqC,hj2,a2,iQ,a3,h]
      rfl
     simp only[Bool.not_eq_false']at h
     have a4:=h
     clear h
     (conv=>whnf)
     refine cI (fS x.w 0 1000000000) [] Tryz.call46 ?_
     refine gR ?_
     refine⟨fun h=>?_,fun h=>?_⟩
     ·refine aQ.is ?_
      simp only[Bool.not_eq_true']at h
      simp only[eqV,eqA,eqC,hj2,a2,iQ,a3,a4,h]
      rfl
     simp only[Bool.not_eq_false']at h
     have a5:iQ x=true:=by simp only[iQ,a3,a4,h];rfl
     clear h
     (conv=>whnf)
     refine dR ?_
     refine gR ?_
     refine⟨fun h=>⟨?_,?_,?_,?_⟩,fun h=>⟨?_,?_⟩⟩
     ·unfold InI;omega
     ·simp only[decide_eq_true_eq,gt_iff_lt]at h;omega
     ·simp only[decide_eq_true_eq,gt_iff_lt]at h;omega
     ·simp only[decide_eq_true_eq,gt_iff_lt]at h
      have hj0:j≠0:=by omega
      clear h
      have e:0+((j:Int)-1).toNat=j-1:=by omega
      (conv=>whnf)
      simp only[e,Nat.zero_add,Int.toNat_natCast]
      simp only[if_neg hj0]at hj2
      generalize hy:F.arcs.getD (j-1) EK.arc.dflt=y at hj2⊢
      refine cI (aB2 y x) [] Tryz.call47 ?_
      refine gR ?_
      refine⟨fun h=>?_,fun h=>⟨?_,?_⟩⟩
      ·refine aQ.is ?_
       simp only[eqV,eqA,eqC,hj2,a2,a5,h]
       rfl
      ·unfold InI;omega
      ·simp only[Bool.not_eq_false']at h
       (conv=>whnf)
       refine⟨j+1,[],⟨by rfl,?_,?_⟩,⟨hj,?_⟩,by omega⟩
       ·simp
       ·simp
       ·simp only[a2,a5,h,Bool.not_true,Bool.false_eq_true,if_false]at hj2
        rw[if_neg (Nat.succ_ne_zero j),Nat.add_sub_cancel,hx]
        exact hj2
     ·unfold InI;omega
     ·simp only[decide_eq_false_iff_not,gt_iff_lt]at h
      have hj0:j=0:=by omega
      simp only[if_pos hj0]at hj2
      (conv=>whnf)
      refine⟨j+1,[],⟨by rfl,?_,?_⟩,⟨hj,?_⟩,by omega⟩
      ·simp
      ·simp
      ·simp only[a2,a5,Bool.not_true,Bool.false_eq_true,if_false]at hj2
       rw[if_neg (Nat.succ_ne_zero j),Nat.add_sub_cancel,hx]
       exact hj2
    ·refine aQ.is ?_
     simp only[decide_eq_false_iff_not]at h
     rw[List.drop_eq_nil_of_le (by omega),wI]at hj2
     simp only[eqV,eqA,eqC,hj2]
theorem Jv (l:List Int) (cap:Nat) (hl:l.length<=9223372036854775807) (g:Nat) (p:Int->Bool) (hg: ∀x,Ct Tryz.prog g [.i x] [] [] 0 (Is 0 (.b (p x)))) (hcf: ∀args w,(callFunc g args).run Tryz.prog w= .ok (.enter g args) w):
  Ct Tryz.prog 135 [.c (.sl 0 1 0 l.length cap),.c (.fn g [])] [] [(0,.arr false 3 .int l 0)] 1 (Is 1 (.i (idx p 0 l))):=by
 refine ctW Tryz.tyOk 6 [7,8] Tryz.func135 rfl (by simp) (by simp) (fr:= [(0,.c (.sl 0 1 0 l.length cap)),(1,.c (.fn g []))]) rfl ?_
 (conv=>whnf)
 refine aJ (fun k:Nat=>⟨[(0,.c (.sl 0 1 0 l.length cap)),(1,.c (.fn g [])),(4,.i 0),(7,.i l.length),(8,.i k)],[(0,.arr false 3 .int l 0)],1⟩) (fun k=>k<=l.length/\idx p 0 l=idx p k (l.drop k)) (fun k=>l.length-k) 0 [] ⟨by rfl,?_,?_⟩ (by simp) ?_
 ·simp
 ·simp
 ·intro k ⟨hk1,hk2⟩
  refine gR ?_
  refine⟨fun h=>⟨?_,?_,?_⟩,fun h=>?_⟩
  ·simp only[decide_eq_true_eq]at h;omega
  ·simp only[decide_eq_true_eq]at h;omega
  ·simp only[decide_eq_true_eq]at h
   have hk:k<l.length:=by omega
   clear h
   (conv=>whnf)
   simp only[Nat.zero_add,Int.toNat_natCast,EK.dflt]
   rw[Jw p l k 0 hk]at hk2
   refine pN (hg (l.getD k 0)) [] hcf rfl trivial (by simp) (by simp) ?_
   refine gR ?_
   refine⟨fun h=>?_,fun h=>⟨?_,?_⟩⟩
   ·refine aQ.is ?_
    simp only[eqV,eqA,eqC,hk2,h,if_pos]
   ·unfold InI;omega
   ·simp only[h,Bool.false_eq_true,if_false]at hk2
    refine⟨k+1,[],⟨by rfl,?_,?_⟩,⟨hk,hk2⟩,by omega⟩
    ·simp
    ·simp
  ·refine aQ.is ?_
   simp only[decide_eq_false_iff_not]at h
   rw[List.drop_eq_nil_of_le (by omega),idx]at hk2
   simp only[eqV,eqA,eqC,hk2]
theorem gB (l:List Int) (cap:Nat) (hl:l.length<=9223372036854775807) (g:Nat) (p:Int->Bool) (hg: ∀x,Ct Tryz.prog g [.i x] [] [] 0 (Is 0 (.b (p x)))) (hcf: ∀args w,(callFunc g args).run Tryz.prog w= .ok (.enter g args) w):
  Ct Tryz.prog 89 [.c (.sl 0 1 0 l.length cap),.c (.fn g [])] [] [(0,.arr false 3 .int l 0)] 1 (Is 1 (.b (l.any p))):=by
 refine ctW Tryz.tyOk 5 [] Tryz.func89 rfl (by simp) (by simp) (fr:= [(0,.c (.sl 0 1 0 l.length cap)),(1,.c (.fn g []))]) rfl ?_
 (conv=>whnf)
 refine pN (Jv l cap hl g p hg hcf) [0] Tryz.call135 rfl (by simp) (by simp) (by simp) ?_
 refine gR ?_
 refine aQ.is ?_
 simp only[eqV,eqA,eqC]
 exact(Rk p l 0).symm
theorem Gn (l:List Arc) (cap:Nat) (hl:l.length<=9223372036854775807) (g:Nat) (p:Arc->Bool) (hg: ∀x,Ct Tryz.prog g [dK x] [] [] 0 (Is 0 (.b (p x)))) (hcf: ∀args w,(callFunc g args).run Tryz.prog w= .ok (.enter g args) w):
  Ct Tryz.prog 115 [.c (.sl 0 5 0 l.length cap),.c (.fn g [])] [] [(0,.arr false 55 .arc l 0)] 1 (Is 1 (.i (idx p 0 l))):=by
 refine ctW Tryz.tyOk 6 [7,8] Tryz.func115 rfl (by simp) (by simp) (fr:= [(0,.c (.sl 0 5 0 l.length cap)),(1,.c (.fn g []))]) rfl ?_
 (conv=>whnf)
 refine aJ (fun k:Nat=>⟨[(0,.c (.sl 0 5 0 l.length cap)),(1,.c (.fn g [])),(4,.i 0),(7,.i l.length),(8,.i k)],[(0,.arr false 55 .arc l 0)],1⟩) (fun k=>k<=l.length/\idx p 0 l=idx p k (l.drop k)) (fun k=>l.length-k) 0 [] ⟨by rfl,?_,?_⟩ (by simp) ?_
 ·simp
 ·simp
 ·intro k ⟨hk1,hk2⟩
  refine gR ?_
  refine⟨fun h=>⟨?_,?_,?_⟩,fun h=>?_⟩
  ·simp only[decide_eq_true_eq]at h;omega
  ·simp only[decide_eq_true_eq]at h;omega
  ·simp only[decide_eq_true_eq]at h
   have hk:k<l.length:=by omega
   clear h
   (conv=>whnf)
   simp only[Nat.zero_add,Int.toNat_natCast]
   rw[Jw p l k EK.arc.dflt hk]at hk2
   refine pN (hg (l.getD k EK.arc.dflt)) [] hcf rfl trivial (by simp) (by simp) ?_
   refine gR ?_
   refine⟨fun h=>?_,fun h=>⟨?_,?_⟩⟩
   ·refine aQ.is ?_
    simp only[eqV,eqA,eqC,hk2,h,if_pos]
   ·unfold InI;omega
   ·simp only[h,Bool.false_eq_true,if_false]at hk2
    refine⟨k+1,[],⟨by rfl,?_,?_⟩,⟨hk,hk2⟩,by omega⟩
    ·simp
    ·simp
  ·refine aQ.is ?_
   simp only[decide_eq_false_iff_not]at h
   rw[List.drop_eq_nil_of_le (by omega),idx]at hk2
   simp only[eqV,eqA,eqC,hk2]
theorem dF (l:List Arc) (cap:Nat) (hl:l.length<=9223372036854775807) (g:Nat) (p:Arc->Bool) (hg: ∀x,Ct Tryz.prog g [dK x] [] [] 0 (Is 0 (.b (p x)))) (hcf: ∀args w,(callFunc g args).run Tryz.prog w= .ok (.enter g args) w):
  Ct Tryz.prog 67 [.c (.sl 0 5 0 l.length cap),.c (.fn g [])] [] [(0,.arr false 55 .arc l 0)] 1 (Is 1 (.b (l.any p))):=by
 refine ctW Tryz.tyOk 5 [] Tryz.func67 rfl (by simp) (by simp) (fr:= [(0,.c (.sl 0 5 0 l.length cap)),(1,.c (.fn g []))]) rfl ?_
 (conv=>whnf)
 refine pN (Gn l cap hl g p hg hcf) [0] Tryz.call115 rfl (by simp) (by simp) (by simp) ?_
 refine gR ?_
 refine aQ.is ?_
 simp only[eqV,eqA,eqC]
 exact(Rk p l 0).symm
theorem aDC (l:List Int) (cap:Nat) (hl:l.length<=9223372036854775807):Ct Tryz.prog 105 [.c (.sl 0 1 0 l.length cap)] [] [(0,.arr true 3 .int l 0)] 1 (Is 1 (.i (orI l))):=by
 refine ctW Tryz.tyOk 6 [6,7,8] Tryz.func105 rfl (by simp) (by simp) (fr:= [(0,.c (.sl 0 1 0 l.length cap))]) rfl ?_
 (conv=>whnf)
 refine aJ (fun k:Nat=>⟨[(2,.i 0),(3,.i 0),(6,.c (.sl 0 1 0 l.length cap)),(7,.i l.length),(8,.i k)],[(0,.arr true 3 .int l 0)],1⟩) (fun k=>k<=l.length/\orI l=orI (l.drop k)) (fun k=>l.length-k) 0 [] ⟨by rfl,?_,?_⟩ (by simp) ?_
 ·simp
 ·simp
 ·intro k ⟨hk1,hk2⟩
  refine gR ?_
  refine⟨fun h=>⟨?_,?_,fun h=>?_,fun h=>⟨?_,?_⟩⟩,fun h=>?_⟩
  ·simp only[decide_eq_true_eq]at h;omega
  ·simp only[decide_eq_true_eq]at h;omega
  ·simp only[bne_iff_ne,Nat.zero_add,Int.toNat_natCast,EK.dflt]at h
   rename_i hk
   simp only[decide_eq_true_eq]at hk
   rw[Ja l k (by omega),if_pos h]at hk2
   refine aQ.is ?_
   simp only[eqV,eqA,eqC,hk2,Nat.zero_add,Int.toNat_natCast,EK.dflt]
  ·rename_i hk
   simp only[decide_eq_true_eq]at hk
   unfold InI;omega
  ·simp only[bne_eq_false_iff_eq,Nat.zero_add,Int.toNat_natCast,EK.dflt]at h
   rename_i hk
   simp only[decide_eq_true_eq]at hk
   rw[Ja l k (by omega),if_neg (by rw[h];simp)]at hk2
   (conv=>whnf)
   refine⟨k+1,[],⟨by rfl,?_,?_⟩,⟨by omega,hk2⟩,by omega⟩
   ·simp
   ·simp
  ·refine aQ.is ?_
   simp only[decide_eq_false_iff_not]at h
   rw[List.drop_eq_nil_of_le (by omega),orI]at hk2
   simp only[eqV,eqA,eqC,hk2]
theorem Fy (a b:Arc):Ct Tryz.prog 91 [dK a,dK b] [] [] 0 (Is 0 (.i (iW a b))):=by
 refine ctW Tryz.tyOk 5 [] Tryz.func91 rfl (by simp) (by simp) (fr:= [(0,dK a),(1,dK b)]) rfl ?_
 (conv=>whnf)
 refine dR ?_
 (conv=>whnf)
 refine cI (kB a.f b.f) [] Tryz.call106 ?_
 repeat' (first|exact rfl|((conv=>whnf);first|refine cP (fun h=>?_) (fun h=>?_)|refine Ob.mk ?_ ?_|refine nX.mk ?_ ?_))
 (conv=>whnf)
 refine cI (kB a.i b.i) [] Tryz.call106 ?_
 repeat' (first|exact rfl|((conv=>whnf);first|refine cP (fun h=>?_) (fun h=>?_)|refine Ob.mk ?_ ?_|refine nX.mk ?_ ?_))
 (conv=>whnf)
 refine cI (kB a.o b.o) [] Tryz.call106 ?_
 repeat' (first|exact rfl|((conv=>whnf);first|refine cP (fun h=>?_) (fun h=>?_)|refine Ob.mk ?_ ?_|refine nX.mk ?_ ?_))
 (conv=>whnf)
 refine cI (kB a.t b.t) [] Tryz.call106 ?_
 refine gR ?_
 refine pN (aDC [jB a.f b.f,jB a.i b.i,jB a.o b.o,jB a.t b.t] 4 (by simp)) [2] Tryz.call105 rfl (by simp) (by simp) (by simp) ?_
 refine gR ?_
 refine aQ.is ?_
 simp only[eqV,eqA,eqC,iW]
theorem Az (F:TF) (n:Int) (hst:InI (F.st-1)):Ct Tryz.prog 87 [.i n,.c (.ptr 2 0)] [] (hpC F) 3 (fun v s=>v= .b (decide (0<=n/\n<=F.st-1))/\s=⟨[],[(2,.box 25 [.i F.st,.i F.start,.sl 0 1 0 F.fin.length F.capF,.sl 1 5 0 F.arcs.length F.capA])],3⟩):=by
 refine ctW Tryz.tyOk 4 [] Tryz.func87 rfl (by simp) (by simp) (fr:= [(0,.i n),(1,.c (.ptr 2 0))]) rfl ?_
 refine gR ?_
 refine⟨?_,?_⟩
 ·exact hst
 (conv=>whnf)
 refine cI (kE n 0 (F.st-1)) [] Tryz.call88 ?_
 refine gR ?_
 exact⟨[],[(2,.box 25 [.i F.st,.i F.start,.sl 0 1 0 F.fin.length F.capF,.sl 1 5 0 F.arcs.length F.capA])],3,.b (decide (0<=n/\n<=F.st-1)),⟨by rfl,trivial,by simp⟩,by simp only[eqV,eqA,eqC],rfl,rfl⟩
theorem aU (F:TF) (hl:F.fin.length<=9223372036854775807):Ct Tryz.prog 35 [fV F] [] (hpF F) 2 (Is 2 (.i (aL F))):=by
 refine ctW Tryz.tyOk 6 [35,36,37] Tryz.func35 rfl (by simp) (by simp) (fr:= [(0,fV F)]) rfl ?_
 (conv=>whnf)
 refine cI (kE F.st 1 200) [] Tryz.call88 ?_
 refine gR ?_
 refine⟨fun h=>?_,fun h=>?_⟩
 ·refine aQ.is ?_
  simp only[Bool.not_eq_true',decide_eq_false_iff_not]at h
  simp only[eqV,eqA,eqC,aL,if_pos h]
 simp only[Bool.not_eq_false',decide_eq_true_eq]at h
 have h1:=h
 clear h
 have hst:InI (F.st-1):=by unfold InI;omega
 (conv=>whnf)
 refine aO (Az F F.start hst) [0,1,2] Tryz.call87 rfl (by simp) (by simp) (by simp) ?_
 rintro _ _ ⟨rfl,rfl⟩
 refine gR ?_
 refine⟨fun h=>?_,fun h=>⟨fun h=>?_,fun h=>?_⟩⟩
 ·refine aQ.is ?_
  simp only[Bool.not_eq_true',decide_eq_false_iff_not]at h
  simp only[eqV,eqA,eqC,aL,if_neg (not_not_intro h1),if_pos h]
 ·refine aQ.is ?_
  rename_i h2
  simp only[Bool.not_eq_false',decide_eq_true_eq,bne_iff_ne]at h h2
  simp only[eqV,eqA,eqC,aL,if_neg (not_not_intro h1),if_neg (not_not_intro h2),if_pos h]
 rename_i h2
 simp only[Bool.not_eq_false',decide_eq_true_eq,bne_eq_false_iff_eq]at h h2
 have h3:=h
 clear h
 (conv=>whnf)
 refine pN (gB F.fin F.capF hl 90 (fun a=> !decide (-1<=a/\a<=1000000000)) aAr Tryz.call90) [0] Tryz.call89 rfl (by simp) (by simp) (by simp) ?_
 have hany:(F.fin.any fun a=> !decide (-1<=a/\a<=1000000000))=true <-> ¬∀n∈F.fin,-1<=n/\n<=1000000000:=by
  rw[List.any_eq_true]
  constructor
  ·rintro⟨x,hx,h⟩ H
   rw[decide_eq_true (H x hx)]at h
   cases h
  ·intro H
   refine Classical.byContradiction fun hc=>H fun n hn=>Classical.byContradiction fun hnn=>hc ⟨n,hn,?_⟩
   rw[decide_eq_false hnn];rfl
 refine gR ?_
 refine⟨fun h=>?_,fun h=>⟨fun h=>?_,fun h=>?_⟩⟩
 ·refine aQ.is ?_
  rw[hany]at h
  simp only[eqV,eqA,eqC,aL,if_neg (not_not_intro h1),if_neg (not_not_intro h2),if_neg (not_not_intro h3),if_pos h]
 ·refine aQ.is ?_
  rename_i hk2
  have hk2: ∀n∈F.fin,-1<=n/\n<=1000000000:=Classical.not_not.1 fun hc=>by rw[hany.2 hc]at hk2;cases hk2
  simp only[decide_eq_true_eq]at h
  simp only[eqV,eqA,eqC,aL,if_neg (not_not_intro h1),if_neg (not_not_intro h2),if_neg (not_not_intro h3),if_neg (not_not_intro hk2),if_pos (show 3000<F.arcs.length by omega)]
 rename_i hk2
 have hk2: ∀n∈F.fin,-1<=n/\n<=1000000000:=Classical.not_not.1 fun hc=>by rw[hany.2 hc]at hk2;cases hk2
 simp only[decide_eq_false_iff_not]at h
 have h5:F.arcs.length<=3000:=by omega
 have h4:aL F=nN F.st none F.arcs:=by
  simp only[aL,if_neg (not_not_intro h1),if_neg (not_not_intro h2),if_neg (not_not_intro h3),if_neg (not_not_intro hk2),if_neg (show¬3000<F.arcs.length by omega)]
 clear hk2 h hany
 (conv=>whnf)
 refine aJ (fun k:Nat=>⟨[(1,.c (.ptr 2 0)),(2,.i 0),(3,.c (.fn 87 [(2,0)])),(35,.c (.sl 1 5 0 F.arcs.length F.capA)),(36,.i F.arcs.length),(37,.i k)],hpC F,3⟩) (fun k=>k<=F.arcs.length/\aL F=nN F.st (if k=0 then none else some (F.arcs.getD (k-1) EK.arc.dflt)) (F.arcs.drop k)) (fun k=>F.arcs.length-k) 0 [] ⟨by rfl,?_,?_⟩ (by simp[h4]) ?_
 ·simp
 ·simp
 ·intro j ⟨hj1,hj2⟩
  refine gR ?_
  refine⟨fun h=>⟨?_,?_,?_⟩,fun h=>?_⟩
  ·simp only[decide_eq_true_eq]at h;omega
  ·simp only[decide_eq_true_eq]at h;omega
  ·simp only[decide_eq_true_eq]at h
   have hj:j<F.arcs.length:=by omega
   clear h
   (conv=>whnf)
   simp only[Nat.zero_add,Int.toNat_natCast]
   have hd:F.arcs.drop j=F.arcs.getD j EK.arc.dflt::F.arcs.drop (j+1):=by
    rw[List.drop_eq_getElem_cons hj];simp[List.getD,hj]
   rw[hd,nC]at hj2
   generalize hx:F.arcs.getD j EK.arc.dflt=x at hj2⊢
   refine aO (Az F x.f hst) [0,1,2] Tryz.call87 rfl (by simp) (by simp) (by simp) ?_
   rintro _ _ ⟨rfl,rfl⟩
   refine gR ?_
   refine⟨fun h=>?_,fun h=>?_⟩
   ·refine aQ.is ?_
    simp only[Bool.not_eq_true']at h
    simp only[eqV,eqA,eqC,hj2,kW,h]
    rfl
   simp only[Bool.not_eq_false']at h
   have a1:=h
   clear h
   (conv=>whnf)
   refine aO (Az F x.t hst) [0,1,2] Tryz.call87 rfl (by simp) (by simp) (by simp) ?_
   rintro _ _ ⟨rfl,rfl⟩
   refine gR ?_
   refine⟨fun h=>?_,fun h=>?_⟩
   ·refine aQ.is ?_
    simp only[Bool.not_eq_true']at h
    simp only[eqV,eqA,eqC,hj2,kW,a1,h]
    rfl
   simp only[Bool.not_eq_false']at h
   have a2:kW F.st x=true:=by simp only[kW,a1,h];rfl
   clear h
   (conv=>whnf)
   refine cI (kE x.i 0 9) [] Tryz.call88 ?_
   refine gR ?_
   refine⟨fun h=>?_,fun h=>?_⟩
   ·refine aQ.is ?_
    simp only[Bool.not_eq_true']at h
    simp only[eqV,eqA,eqC,hj2,a2,iQ,h]
    rfl
   simp only[Bool.not_eq_false']at h
   have a3:=h
   clear h
   (conv=>whnf)
   refine cI (kE x.o 0 9) [] Tryz.call88 ?_
   refine gR ?_
   refine⟨fun h=>?_,fun h=>?_⟩
   ·refine aQ.is ?_
    simp only[Bool.not_eq_true']at h
    simp only[eqV,eqA,eqC,hj2,a2,iQ,a3,h]
    rfl
   simp only[Bool.not_eq_false']at h
   have a4:=h
   clear h
   (conv=>whnf)
   refine cI (kE x.w 0 1000000000) [] Tryz.call88 ?_
   refine gR ?_
   refine⟨fun h=>?_,fun h=>?_⟩
   ·refine aQ.is ?_
    simp only[Bool.not_eq_true']at h
    simp only[eqV,eqA,eqC,hj2,a2,iQ,a3,a4,h]
    rfl
   simp only[Bool.not_eq_false']at h
   have a5:iQ x=true:=by simp only[iQ,a3,a4,h];rfl
   clear h
   (conv=>whnf)
   refine dR ?_
   refine gR ?_
   refine⟨fun h=>⟨?_,?_,?_,?_⟩,fun h=>⟨?_,?_⟩⟩
   ·unfold InI;omega
   ·simp only[decide_eq_true_eq,gt_iff_lt]at h;omega
   ·simp only[decide_eq_true_eq,gt_iff_lt]at h;omega
   ·simp only[decide_eq_true_eq,gt_iff_lt]at h
    have hj0:j≠0:=by omega
    clear h
    have e:0+((j:Int)-1).toNat=j-1:=by omega
    (conv=>whnf)
    simp only[e,Nat.zero_add,Int.toNat_natCast]
    simp only[if_neg hj0]at hj2
    generalize hy:F.arcs.getD (j-1) EK.arc.dflt=y at hj2⊢
    refine cI (Fy y x) [] Tryz.call91 ?_
    refine gR ?_
    refine⟨fun h=>?_,fun h=>⟨?_,?_⟩⟩
    ·refine aQ.is ?_
     rw[tL]at h
     simp only[eqV,eqA,eqC,hj2,a2,a5,h]
     rfl
    ·unfold InI;omega
    ·rw[tL]at h
     simp only[Bool.not_eq_false']at h
     (conv=>whnf)
     refine⟨j+1,[],⟨by rfl,?_,?_⟩,⟨hj,?_⟩,by omega⟩
     ·simp
     ·simp
     ·simp only[a2,a5,h,Bool.not_true,Bool.false_eq_true,if_false]at hj2
      rw[if_neg (Nat.succ_ne_zero j),Nat.add_sub_cancel,hx]
      exact hj2
   ·unfold InI;omega
   ·simp only[decide_eq_false_iff_not,gt_iff_lt]at h
    have hj0:j=0:=by omega
    simp only[if_pos hj0]at hj2
    (conv=>whnf)
    refine⟨j+1,[],⟨by rfl,?_,?_⟩,⟨hj,?_⟩,by omega⟩
    ·simp
    ·simp
    ·simp only[a2,a5,Bool.not_true,Bool.false_eq_true,if_false]at hj2
     rw[if_neg (Nat.succ_ne_zero j),Nat.add_sub_cancel,hx]
     exact hj2
  ·refine aQ.is ?_
   simp only[decide_eq_false_iff_not]at h
   rw[List.drop_eq_nil_of_le (by omega),wI]at hj2
   simp only[eqV,eqA,eqC,hj2]
def Sl (m E:Nat) (k:EK) (xs:List k.ty) (v:SV) (s:S):Prop:= ∃sp,v= .c (.sl m k.sz 0 xs.length (xs.length+sp))/\s=⟨[],[(m,.arr true E k xs sp)],m+1⟩
theorem uH (l:List Int) (cap:Nat) (hl:l.length<=1000000):Ct Tryz.prog 100 [.c (.sl 0 1 0 l.length cap)] [] [(0,.arr false 3 .int l 0)] 1 (Sl 1 3 .int l):=by
 refine ctW Tryz.tyOk 3 [] Tryz.func100 rfl (by simp) (by simp) (fr:= [(0,.c (.sl 0 1 0 l.length cap))]) rfl ?_
 (conv=>whnf)
 intro c hc
 refine gR ?_
 refine⟨fun h=>?_,fun h=>⟨?_,?_,?_,?_⟩⟩
 ·have hl0:=hc h
  subst hl0
  exact⟨[(1,none)],[(1,.arr true 3 .int [] 0)],2,.c (.sl 1 1 0 0 0),⟨by rfl,trivial,by simp[cT]⟩,by simp,⟨0,rfl,rfl⟩⟩
 ·simp
 ·simp
 ·omega
 ·intro sp
  (conv=>whnf)
  exact⟨[(1,some 2)],[(1,.arr true 3 .int l sp)],2,.c (.sl 1 1 0 l.length (l.length+sp)),⟨by rfl,trivial,by simp;exact(aB0 _ _ rfl).symm⟩,by simp,⟨sp,rfl,rfl⟩⟩
theorem mP (a b:List Int) (ca cb:Nat) (ha:a.length<=9223372036854775807) (hl:b.length<=9223372036854775807):
  Ct Tryz.prog 42 [.c (.sl 0 1 0 a.length ca),.c (.sl 1 1 0 b.length cb)] [] [(0,.arr false 3 .int a 0),(1,.arr false 3 .int b 0)] 2 (Is 2 (.b (decide (a=b)))):=by
 refine ctW Tryz.tyOk 6 [] Tryz.func42 rfl (by simp) (by simp) (fr:= [(0,.c (.sl 0 1 0 a.length ca)),(1,.c (.sl 1 1 0 b.length cb))]) rfl ?_
 refine gR ?_
 refine⟨fun h=>?_,fun h=>?_⟩
 ·simp only[bne_iff_ne]at h
  have:a≠b:=fun e=>h (by rw[e])
  (conv=>whnf)
  exact⟨[],[],2,.b (decide (a=b)),⟨by rfl,trivial,trivial⟩,by simp[this],rfl,rfl⟩
 simp only[bne_eq_false_iff_eq]at h
 have hab:a.length=b.length:=by omega
 clear h
 (conv=>whnf)
 refine aJ (fun k:Nat=>⟨[(0,.c (.sl 0 1 0 a.length ca)),(1,.c (.sl 1 1 0 b.length cb)),(4,.b false),(5,.i k)],[(0,.arr false 3 .int a 0),(1,.arr false 3 .int b 0)],2⟩) (fun k=>k<=a.length/\ ∀j,j<k->a.getD j 0=b.getD j 0) (fun k=>a.length-k) 0 [] ⟨by rfl,?_,?_⟩ (by simp) ?_
 ·simp
 ·simp
 ·intro k ⟨hk1,hk2⟩
  refine gR ?_
  refine⟨fun h=>?_,fun h=>?_⟩
  refine dR ?_
  repeat' (first|exact rfl|((conv=>whnf);first|refine cP (fun h=>?_) (fun h=>?_)|refine Ob.mk ?_ ?_|refine nX.mk ?_ ?_))
  ·simp only[decide_eq_true_eq]at h;omega
  ·simp only[decide_eq_true_eq]at h;omega
  ·simp only[decide_eq_true_eq]at h;omega
  ·simp only[decide_eq_true_eq]at h;omega
  ·rename_i hk
   simp only[decide_eq_true_eq,bne_iff_ne,Nat.zero_add,Int.toNat_natCast,EK.dflt]at h hk
   have:a≠b:=fun e=>h (by rw[e])
   (conv=>whnf)
   exact⟨[],[],2,.b (decide (a=b)),⟨by rfl,trivial,trivial⟩,by simp[this],rfl,rfl⟩
  ·rename_i hk
   simp only[decide_eq_true_eq]at hk
   unfold InI;omega
  ·rename_i hk
   simp only[decide_eq_true_eq,bne_eq_false_iff_eq,Nat.zero_add,Int.toNat_natCast,EK.dflt]at h hk
   (conv=>whnf)
   refine⟨k+1,[],⟨by rfl,?_,?_⟩,⟨by omega,fun j hj=>?_⟩,by omega⟩
   ·simp
   ·simp
   ·exact if e:j=k then e▸h else hk2 j (by omega)
  ·simp only[decide_eq_false_iff_not]at h
   have:a=b:=Ij a b hab fun j hj=>hk2 j (by omega)
   (conv=>whnf)
   exact⟨[],[],2,.b (decide (a=b)),⟨by rfl,trivial,trivial⟩,by simp[this],rfl,rfl⟩
def cO (i j:Nat):SV:= .a (.agg [.i 2,.i 0,.sl i 1 0 2 2,.sl j 5 0 1 1])
theorem eK:Ct Tryz.prog 33 [] [] [] 0 (fun v s=>v=cO 0 1/\s=⟨[],[(0,.arr true 3 .int [-1,1] 0),(1,.arr true 55 .arc [⟨0,1,2,1,5⟩] 0)],2⟩):=by
 refine ctW Tryz.tyOk 1 [] Tryz.func33 rfl (by simp) (by simp) (fr:= []) rfl ?_
 refine gR ?_
 exact⟨[(0,some 1),(1,some 2)],[(0,.arr true 3 .int [-1,1] 0),(1,.arr true 55 .arc [⟨0,1,2,1,5⟩] 0)],2,cO 0 1,⟨by rfl,trivial,by simp⟩,by simp[cO],rfl,rfl⟩
def gV (F:TF):SV:= .a (.agg [.i F.st,.i F.start,.sl 2 1 0 F.fin.length F.capF,.sl 3 5 0 F.arcs.length F.capA])
abbrev hpG (F G:TF):List (Nat×SO):= [(0,.arr false 3 .int F.fin 0),(1,.arr false 55 .arc F.arcs 0),(2,.arr false 3 .int G.fin 0),(3,.arr false 55 .arc G.arcs 0)]
theorem jR (F G:TF) (h1:F.fin.length<=9223372036854775807) (h2:G.fin.length<=9223372036854775807) (h3:F.arcs.length<=9223372036854775807):Ct Tryz.prog 28 [fV F,gV G] [] (hpG F G) 4 (Is 4 (.b (eW F G))):=by
 refine ctW Tryz.tyOk 6 [] Tryz.func28 rfl (by simp[gV]) (by simp) (fr:= [(0,fV F),(1,gV G)]) rfl ?_
 refine gR ?_
 refine⟨fun h=>?_,fun h=>⟨fun h=>?_,fun h=>?_⟩⟩
 ·simp only[bne_iff_ne]at h
  refine aQ.is ?_
  simp[eW,h]
 ·simp only[bne_iff_ne]at h
  refine aQ.is ?_
  simp[eW,h]
 rename_i e1
 simp only[bne_eq_false_iff_eq]at e1 h
 have e2:=h
 clear h
 (conv=>whnf)
 refine pN (mP F.fin G.fin F.capF G.capF h1 h2) [0,2] Tryz.call42 rfl (by simp) (by simp) (by simp) ?_
 refine gR ?_
 refine⟨fun h=>?_,fun h=>⟨fun h=>?_,fun h=>?_⟩⟩
 ·simp only[Bool.not_eq_true',decide_eq_false_iff_not]at h
  refine aQ.is ?_
  simp[eW,h]
 ·simp only[bne_iff_ne]at h
  have:F.arcs≠G.arcs:=fun e=>h (by rw[e])
  refine aQ.is ?_
  simp[eW,this]
 rename_i e3
 simp only[Bool.not_eq_false',decide_eq_true_eq,bne_eq_false_iff_eq]at e3 h
 have e4:F.arcs.length=G.arcs.length:=by omega
 clear h
 (conv=>whnf)
 refine aJ (fun k:Nat=>⟨[(2,.c (.ptr 4 0)),(3,.c (.ptr 5 0)),(4,.b false),(5,.i k)],[(1,.arr false 55 .arc F.arcs 0),(3,.arr false 55 .arc G.arcs 0),(4,.box 25 [.i F.st,.i F.start,.sl 0 1 0 F.fin.length F.capF,.sl 1 5 0 F.arcs.length F.capA]),(5,.box 25 [.i G.st,.i G.start,.sl 2 1 0 G.fin.length G.capF,.sl 3 5 0 G.arcs.length G.capA])],6⟩) (fun k=>k<=F.arcs.length/\ ∀j,j<k->F.arcs.getD j EK.arc.dflt=G.arcs.getD j EK.arc.dflt) (fun k=>F.arcs.length-k) 0 [] ⟨by rfl,?_,?_⟩ (by simp) ?_
 ·simp
 ·simp
 ·intro k ⟨hk1,hk2⟩
  refine gR ?_
  refine⟨fun h=>?_,fun h=>?_⟩
  refine dR ?_
  repeat' (first|exact rfl|((conv=>whnf);first|refine cP (fun h=>?_) (fun h=>?_)|refine Ob.mk ?_ ?_|refine nX.mk ?_ ?_))
  ·simp only[decide_eq_true_eq]at h;omega
  ·simp only[decide_eq_true_eq]at h;omega
  ·simp only[decide_eq_true_eq]at h;omega
  ·simp only[decide_eq_true_eq]at h;omega
  ·rw[Sd]at h
   simp only[Bool.not_eq_true',decide_eq_false_iff_not]at h
   have:F.arcs≠G.arcs:=fun e=>h (by rw[e])
   refine aQ.is ?_
   simp[eW,this]
  ·rename_i hk
   simp only[decide_eq_true_eq]at hk
   unfold InI;omega
  ·rename_i hk
   rw[Sd]at h
   simp only[Bool.not_eq_false',decide_eq_true_eq,Nat.zero_add,Int.toNat_natCast]at h hk
   (conv=>whnf)
   refine⟨k+1,[],⟨by rfl,?_,?_⟩,⟨by omega,fun j hj=>?_⟩,by omega⟩
   ·simp
   ·simp
   ·exact if e:j=k then e▸h else hk2 j (by omega)
  ·simp only[decide_eq_false_iff_not]at h
   have:F.arcs=G.arcs:=Cu _ _ e4 fun j hj=>hk2 j (by omega)
   refine aQ.is ?_
   simp[eW,this,e1,e2,e3]
theorem aC2 (k m:Nat) (v:Int):lOp.cpL (List.replicate k v++List.replicate m 0) k (Nat.min k m) (sub (List.replicate k v++List.replicate m 0) 0 k)=List.replicate (k+Nat.min k m) v++List.replicate (m-Nat.min k m) (0:Int):=by
 have h1:Nat.min k m<=k:=Nat.min_le_left _ _
 have h2:Nat.min k m<=m:=Nat.min_le_right _ _
 generalize Nat.min k m=j at*
 unfold lOp.cpL sub
 have e1:(List.replicate k v++List.replicate m (0:Int)).take k=List.replicate k v:=by rw[List.take_append_of_le_length (by simp),List.take_of_length_le (by simp)]
 have e2:(List.replicate k v++List.replicate m (0:Int)).drop (k+j)=List.replicate (m-j) 0:=by
  rw[List.drop_append,List.drop_of_length_le (by simp)]
  simp
 rw[List.drop_zero,e1,e2,List.take_replicate,List.replicate_append_replicate,Nat.min_eq_left h1]
theorem aC3 (m:Nat) (v:Int):List.replicate (Nat.min 1 m) v++List.replicate (m-Nat.min 1 m) 0=lOp.cpL (List.replicate m (0:Int)) 0 (Nat.min 1 m) (sub [v] 0 1):=by
 unfold lOp.cpL sub
 cases m with
 |zero=>simp[nV]
 |succ m=>have e:min 1 (m+1)=1:=by omega
          simp[nV,e]
theorem iG (v n:Int) (cap:Nat) (h0:0<=n) (h1:n<=1000000):Ct Tryz.prog 111 [.c (.sl 0 1 0 1 cap),.i n] [] [(0,.arr false 3 .int [v] 0)] 1 (fun r s=>r= .c (.sl 1 1 0 n.toNat n.toNat)/\s=⟨[],[(1,.arr true 3 .int (List.replicate n.toNat v) 0)],2⟩):=by
 obtain⟨m,rfl⟩:=Int.eq_ofNat_of_zero_le h0
 simp only[Int.toNat_natCast]
 refine ctW Tryz.tyOk 9 [] Tryz.func111 rfl (by simp) (by simp) (fr:= [(0,.c (.sl 0 1 0 1 cap)),(1,.i m)]) rfl ?_
 refine gO ?_
 refine cI (aDG 1 m (by omega) (by omega) (by omega)) [] Tryz.call140 ?_
 refine gO fun h=>?_
 ·(conv=>whnf)
  refine aJ (fun k:Nat=>⟨[(7,.c (.sl 1 1 0 m m)),(8,.i k)],[(1,.arr true 3 .int (List.replicate k v++List.replicate (m-k) (0:Int)) 0)],2⟩) (fun k=>k<=m/\(1<=k\/m=0)) (fun k=>m-k) (Nat.min 1 m) [] ⟨by rfl,?_,?_⟩ ?_ ?_
  ·simp
  ·simp
   have:=aC3 m v
   exact this
  ·simp only[nV];omega
  ·intro k hk
   refine gO ?_
   refine⟨fun h h h=>?_,fun h=>?_⟩
   ·refine⟨k+Nat.min k (m-k),[],⟨by rfl,?_,?_⟩,?_,?_⟩
    ·simp
    ·simp
     rw[aC2]
     congr 2
     simp only[nV];omega
    ·simp only[nV];omega
    ·simp only[nV];omega
   ·(conv=>whnf)
    have e:k=m:=by omega
    subst e
    exact⟨[],[(1,.arr true 3 .int (List.replicate k v) 0)],2,.c (.sl 1 1 0 k k),⟨by rfl,trivial,by simp⟩,by simp,rfl,rfl⟩
theorem If (F:TF) (hF:mL F) (c:List Int) (hc:Bd F.st 100000000000 c) (g:Nat) (e:Arc->Arc) (hg: ∀a,Ct Tryz.prog g [dK a] [] [] 0 (Is 0 (.tup [.c (.i (e a).f),.c (.i (e a).t)])))
  (hcf: ∀args w,(callFunc g args).run Tryz.prog w= .ok (.enter g args) w) (hw: ∀a,(e a).w=a.w) (he: ∀a,bC F.st a->bC F.st (e a)) (cap sp:Nat) (hcap:cap<=c.length+sp) (hcl:c.length<=cap):
  Ct Tryz.prog 116 [fV F,.c (.sl 2 1 0 c.length cap),.c (.fn g [])] [] [(0,.arr false 3 .int F.fin 0),(1,.arr false 55 .arc F.arcs 0),(2,.arr true 3 .int c sp)] 3
   (fun v s=>v= .c (.sl 3 1 0 c.length c.length)/\s=⟨[],[(2,.arr true 3 .int (fW (F.arcs.map e) c.length c).1 sp),(3,.arr true 3 .int (fW (F.arcs.map e) c.length c).2 0)],4⟩):=by
 have hst:=hF.st
 have hlen:=hc.len
 have hst2:F.st.toNat=c.length:=by omega
 refine ctW Tryz.tyOk 16 [23,24,25,60,61,62] Tryz.func116 rfl (by simp) (by simp) (fr:= [(0,fV F),(1,.c (.sl 2 1 0 c.length cap)),(2,.c (.fn g []))]) rfl ?_
 refine gO ?_
 refine aO (iG (-1) F.st 1 (by omega) (by omega)) [4] Tryz.call111 rfl (by simp) (by simp) (by simp) ?_
 rintro _ _ ⟨rfl,rfl⟩
 refine gO ?_
 refine aJ (fun x:Nat×List Int×List Int×List Bool=>⟨[(1,.c (.sl 2 1 0 c.length cap)),(2,.c (.fn g [])),(3,.c (.ptr 3 0)),(7,.c (.sl 5 1 0 c.length c.length)),(8,.c (.sl 6 1 0 c.length c.length))],[(1,.arr false 55 .arc F.arcs 0),(2,.arr true 3 .int x.2.1 sp),(3,.box 25 (aA F)),(5,.arr true 3 .int x.2.2.1 0),(6,.arr true 4 .bool x.2.2.2 0)],7⟩)
  (fun x=>SI F.st (F.arcs.map e).zipIdx (fW (F.arcs.map e) c.length c) x.1 x.2.1 x.2.2.1 x.2.2.2) (fun x=>x.1) (c.length+1,c,List.replicate c.length (-1),List.replicate c.length false) [] ⟨by rfl,?_,?_⟩ (SI.start hst hc) ?_
 ·simp[hst2]
 ·simp[hst2,aA]
  exact .inr rfl
 ·rintro⟨k,c1,b1,d1⟩ hx
  simp only at hx⊢
  have hl1:=hx.bd.len
  have hl2:=hx.lenb
  have hl3:=hx.lend
  have hl4:c1.length=c.length:=by omega
  refine gO ?_
  refine aJ (fun j:Nat=>⟨[(1,.c (.sl 2 1 0 c.length cap)),(2,.c (.fn g [])),(3,.c (.ptr 3 0)),(7,.c (.sl 5 1 0 c.length c.length)),(8,.c (.sl 6 1 0 c.length c.length)),(9,.i (pick c1 d1 j)),(23,.c (.sl 2 1 0 c.length cap)),(24,.i c.length),(25,.i j)],[(1,.arr false 55 .arc F.arcs 0),(2,.arr true 3 .int c1 sp),(3,.box 25 (aA F)),(5,.arr true 3 .int b1 0),(6,.arr true 4 .bool d1 0)],7⟩)
   (fun j=>j<=c.length) (fun j=>c.length-j) 0 [] ⟨by rfl,?_,?_⟩ (Nat.zero_le _) ?_
  ·simp[hst2,pick]
  ·simp[aA]
  ·intro j hj
   have hps:=lV c1 d1 j (by omega)
   refine gO ?_
   refine⟨fun h=>⟨fun h=>⟨fun h=>⟨fun h=>?_,fun h=>⟨fun h=>?_,fun h=>?_⟩⟩,fun h=>?_⟩,fun h=>?_⟩,fun h=>⟨fun h=>?_,fun h=>?_⟩⟩
   any_goals
    (conv=>whnf)
    refine⟨j+1,[],⟨by rfl,?_,?_⟩,by omega,by omega⟩
    ·clear hps hx
     simp only[Nat.zero_add,Int.toNat_natCast,EK.dflt]at*
     first
      |(have hp:pick c1 d1 (j+1)=j:=by
         rw[pick,if_pos]
         exact⟨by simpa using ‹(!d1.getD j false)=true›,by assumption,by first|(left;assumption)|(right;assumption)⟩
        simp[hst2,hp])
      |(have hp:pick c1 d1 (j+1)=pick c1 d1 j:=by
         rw[pick,if_neg]
         rintro⟨q1,q2,q3⟩
         first|omega|(have hh:= ‹(!d1.getD j false)=false›;rw[q1]at hh;cases hh)
        simp[hst2,hp])
    ·simp[aA]
   ·have hj2:j=c1.length:=by omega
    subst hj2
    have hR:=hx.over (by assumption)
    (conv=>whnf)
    exact⟨[(3,some 5)],[(2,.arr true 3 .int c1 sp),(3,.arr true 3 .int b1 0)],4,.c (.sl 3 1 0 c.length c.length),⟨by rfl,trivial,by simp⟩,by simp,rfl,by rw[hR]⟩
   ·have hj2:j=c1.length:=by omega
    subst hj2
    obtain⟨n1,n2,n3,n4,n5,n6,n7⟩:=hx.next hst (Wd (fun a ha=>by
     obtain⟨b,hb,rfl⟩:=List.mem_map.1 ha
     exact he b (hF.arc b hb))) (by assumption)
    have hsv: ∀i,i<=F.arcs.length->SB F.st (100000000000*(203-k)) (pick c1 d1 c1.length) (c1.getD (pick c1 d1 c1.length).toNat 0) (eG ((F.arcs.map e).zipIdx.take i) (pick c1 d1 c1.length) (c1,b1)):=fun i _=>
     n6.fold n3 n4 n5 n7 _ (fun p hp=>Wd (fun a ha=>by
      obtain⟨b,hb,rfl⟩:=List.mem_map.1 ha
      exact he b (hF.arc b hb)) p (List.mem_of_mem_take hp))
    generalize hu:pick c1 d1 c1.length=u at*
    (conv=>whnf)
    refine gO ?_
    refine aJ (fun i:Nat=>⟨[(1,.c (.sl 2 1 0 c.length cap)),(2,.c (.fn g [])),(3,.c (.ptr 3 0)),(7,.c (.sl 5 1 0 c.length c.length)),(8,.c (.sl 6 1 0 c.length c.length)),(9,.i u),(60,.c (.sl 1 5 0 F.arcs.length F.capA)),(61,.i F.arcs.length),(62,.i i)],
      [(1,.arr false 55 .arc F.arcs 0),(2,.arr true 3 .int (eG ((F.arcs.map e).zipIdx.take i) u (c1,b1)).1 sp),(3,.box 25 (aA F)),(5,.arr true 3 .int (eG ((F.arcs.map e).zipIdx.take i) u (c1,b1)).2 0),(6,.arr true 4 .bool (d1.set u.toNat true) 0)],7⟩)
     (fun i=>i<=F.arcs.length) (fun i=>F.arcs.length-i) 0 [] ⟨by rfl,?_,?_⟩ (Nat.zero_le _) ?_
    ·simp[hst2]
    ·simp[aA,eG]
    ·intro i hi
     have hbb:=hsv i hi
     generalize hr:eG ((F.arcs.map e).zipIdx.take i) u (c1,b1)=r at hbb⊢
     have hr1:=hbb.bd.len
     have hr2:=hbb.lenb
     have hsn:=uQ F.arcs e i
     refine gO ?_
     refine⟨fun h=>?_,fun h=>?_⟩
     ·have hxa:=hF.arc _ (aB F.arcs i EK.arc.dflt (by omega))
      replace hsn:=hsn (by omega)
      (conv=>whnf)
      simp only[Nat.zero_add,Int.toNat_natCast]
      generalize F.arcs.getD i EK.arc.dflt=x at hxa hsn⊢
      refine pN (hg x) [] hcf rfl trivial (by simp) (by simp) ?_
      have hea:=he x hxa
      have hew:=hw x
      have t0:=hea.t0
      have t1:=hea.t1
      have w0:=hea.w0
      have w1:=hea.w1
      have hal:=hF.arcl
      have hcu:=hbb.bd.at n3 n4
      have hat:=hbb.at_
      rw[hat]at hcu
      refine gO ?_
      refine⟨fun h=>⟨?_,?_⟩,fun h=>?_⟩
      ·simp only[Nat.zero_add,EK.dflt,InI]
       omega
      ·simp only[Nat.zero_add,EK.dflt]
       refine cI (Lb (r.1.getD u.toNat 0+x.w) (r.1.getD (e x).t.toNat 0)) [] Tryz.call71 ?_
       refine gO ?_
       refine⟨fun h=>⟨?_,?_⟩,fun h=>?_⟩
       ·simp only[Nat.zero_add,EK.dflt,InI]
        omega
       ·have hS:jD u r (e x,i)=(r.1.set (e x).t.toNat (r.1.getD u.toNat 0+x.w),r.2.set (e x).t.toNat (i:Int)):=by
         unfold jD
         rw[hew]
         exact if_pos ⟨by assumption,by assumption⟩
        have hS2:eG ((F.arcs.map e).zipIdx.take (i+1)) u (c1,b1)=(r.1.set (e x).t.toNat (r.1.getD u.toNat 0+x.w),r.2.set (e x).t.toNat (i:Int)):=by rw[hsn,rL,hr,hS]
        (conv=>whnf)
        refine⟨i+1,[],⟨by rfl,?_,?_⟩,by omega,by omega⟩
        ·simp[hst2]
        ·simp[aA,hS2,EK.dflt]
       ·have hS:jD u r (e x,i)=r:=by
         unfold jD
         rw[hew]
         refine if_neg fun hh=>?_
         rw[h]at hh
         cases hh.2
        have hS2:eG ((F.arcs.map e).zipIdx.take (i+1)) u (c1,b1)=r:=by rw[hsn,rL,hr,hS]
        (conv=>whnf)
        refine⟨i+1,[],⟨by rfl,?_,?_⟩,by omega,by omega⟩
        ·simp[hst2]
        ·simp[aA,hS2]
      ·have hS:jD u r (e x,i)=r:=by
        unfold jD
        exact if_neg fun hh=>absurd hh.1 (by assumption)
       have hS2:eG ((F.arcs.map e).zipIdx.take (i+1)) u (c1,b1)=r:=by rw[hsn,rL,hr,hS]
       (conv=>whnf)
       refine⟨i+1,[],⟨by rfl,?_,?_⟩,by omega,by omega⟩
       ·simp[hst2]
       ·simp[aA,hS2]
     ·rw[List.take_of_length_le (by simp;omega)]at hr
      (conv=>whnf)
      refine⟨(k-1,r.1,r.2,d1.set u.toNat true),[],⟨by rfl,?_,?_⟩,by rw[<-hr];exact n1,n2⟩
      ·simp[hst2]
      ·simp[aA]
def cY (F:TF):List Int×List Int:=fW (F.arcs.map id) F.st.toNat (lL F)
def onS (F:TF):List Int×List Int:=fW (F.arcs.map sV) F.st.toNat F.fin
theorem mI (F:TF):(lL F).length=F.st.toNat:=by simp[lL]
theorem Vw {F:TF} (h0:FOk F):(cY F).1=Nw F:=by
 have h:=h0.big
 have hb:=pP h
 unfold cY Nw
 rw[<-mI F]
 refine yM (st:=F.st) (fun a ha=>?_) hb (by omega) (fun a=>by simp)
 rw[List.map_id]at ha
 exact h.arc a ha
theorem Nh {F:TF} (h:mL F):(onS F).1=kZ F:=by
 have hb:=Ag h
 unfold onS kZ
 have e:F.st.toNat=F.fin.length:=by have:=hb.len;omega
 rw[e]
 refine yM (st:=F.st) (fun a ha=>?_) hb (by omega) (fun a=>by simp[xE])
 obtain⟨b,hb,rfl⟩:=List.mem_map.1 ha
 exact sT (h.arc b hb)
theorem Vt {F:TF} (h:FOk F):(List.replicate F.st.toNat (-1:Int)).set F.start.toNat 0=lL F:=by
 have:=h.start
 apply List.ext_getElem (by simp[lL])
 intro i h1 h2
 simp only[lL,List.getElem_map,List.getElem_range,List.getElem_set,List.getElem_replicate,aDf]
 by_cases e:F.start.toNat=i
 ·rw[if_pos e,if_pos (by omega)]
 ·rw[if_neg e,if_neg (by omega)]
theorem Vz (a:Arc):Ct Tryz.prog 118 [dK a] [] [] 0 (Is 0 (.tup [.c (.i (id a).f),.c (.i (id a).t)])):=aAz a
theorem Yp (a:Arc):Ct Tryz.prog 117 [dK a] [] [] 0 (Is 0 (.tup [.c (.i (sV a).f),.c (.i (sV a).t)])):=aDF a
theorem Lp (F:TF) (hF:FOk F):Ct Tryz.prog 70 [fV F] [] (hpF F) 2 (fun v s=>v= .tup [.c (.sl 2 1 0 F.st.toNat F.st.toNat),.c (.sl 3 1 0 F.st.toNat F.st.toNat)]/\s=⟨[],[(2,.arr true 3 .int (cY F).1 0),(3,.arr true 3 .int (cY F).2 0)],4⟩):=by
 have hst:=hF.st
 have hsr:=hF.start
 refine ctW Tryz.tyOk 6 [] Tryz.func70 rfl (by simp) (by simp) (fr:= [(0,fV F)]) rfl ?_
 refine gO ?_
 refine aO (iG (-1) F.st 1 (by omega) (by omega)) [3] Tryz.call111 rfl (by simp) (by simp) (by simp) ?_
 rintro _ _ ⟨rfl,rfl⟩
 refine gO ?_
 have hbs:=Vt hF
 have hbl:=mI F
 have hsc:=If F hF.big (lL F) ((pP hF.big).big (by omega)) 118 id Vz Tryz.call118 (fun _=>rfl) (fun _ h=>h) (lL F).length 0 (by omega) (by omega)
 rw[hbl]at hsc
 refine aO (hsc) [0,1,4] Tryz.call116 rfl (by simp[hbs]) (by simp[hbs]) (by simp) ?_
 rintro _ _ ⟨rfl,rfl⟩
 refine gO ?_
 exact⟨[(2,some 4),(3,some 5)],[(2,.arr true 3 .int (cY F).1 0),(3,.arr true 3 .int (cY F).2 0)],4,.tup [.c (.sl 2 1 0 F.st.toNat F.st.toNat),.c (.sl 3 1 0 F.st.toNat F.st.toNat)],⟨by rfl,trivial,by simp[cY]⟩,by simp,rfl,rfl⟩
theorem aDE (F:TF) (hF:mL F):Ct Tryz.prog 69 [fV F] [] (hpF F) 2 (Sl 2 3 .int (onS F).1):=by
 have hst:=hF.st
 have hfl:=hF.finl
 have hfn:F.fin.length=F.st.toNat:=by omega
 refine ctW Tryz.tyOk 4 [] Tryz.func69 rfl (by simp) (by simp) (fr:= [(0,fV F)]) rfl ?_
 refine gO ?_
 refine cF (uH F.fin F.capF (by omega)) [0] Tryz.call100 ?_
 rintro _ _ ⟨sp,rfl,rfl⟩
 refine gO ?_
 have hsc:=If F hF F.fin ⟨hF.finl,hF.fin⟩ 117 sV Yp Tryz.call117 (fun _=>rfl) (fun _ h=>sT h) (F.fin.length+sp) sp (by omega) (by omega)
 refine cF (hsc) [0,1,3] Tryz.call116 ?_
 rintro _ _ ⟨rfl,rfl⟩
 refine gO ?_
 have e:(onS F).1.length=F.fin.length:=by
  have:=(lG (l:=F.arcs.map sV) (fun a ha=>by
   obtain⟨b,hb,rfl⟩:=List.mem_map.1 ha
   exact sT (hF.arc b hb)) (Ag hF)).1.len
  unfold onS
  rw[<-hfn]
  exact this
 refine⟨[(2,some 3)],[(2,.arr true 3 .int (onS F).1 sp)],3,.c (.sl 2 1 0 (onS F).1.length ((onS F).1.length+sp)),⟨by rfl,trivial,by simp[onS,hfn]⟩,by simp[e],sp,rfl,rfl⟩
theorem aBJ (F:TF) (hl:F.fin.length<=9223372036854775807) (h:aL F=0):Ct Tryz.prog 41 [fV F] [] (hpF F) 2 (fun v s=>v= .tup [.c (.sl 2 1 0 F.st.toNat F.st.toNat),.c (.i 0)]/\s=⟨[],[(2,.arr true 3 .int (cY F).1 0)],3⟩):=by
 refine ctW Tryz.tyOk 7 [] Tryz.func41 rfl (by simp) (by simp) (fr:= [(0,fV F)]) rfl ?_
 refine gO ?_
 refine cI (aU F hl) [0,1] Tryz.call35 ?_
 refine gO fun h=>?_
 refine cF (Lp F (aK h)) [0,1] Tryz.call70 ?_
 rintro _ _ ⟨rfl,rfl⟩
 refine gO ?_
 exact⟨[(2,some 3)],[(2,.arr true 3 .int (cY F).1 0)],3,.tup [.c (.sl 2 1 0 F.st.toNat F.st.toNat),.c (.i 0)],⟨by rfl,trivial,by simp⟩,by simp,rfl,rfl⟩
theorem aDs (F:TF) (hl:F.fin.length<=9223372036854775807) (h:aL F≠0):Ct Tryz.prog 23 [fV F] [] (hpF F) 2 (Is 2 (.tup [.c (.v (.slice none 0 0)),.c (.i (aL F))])):=by
 refine ctW Tryz.tyOk 5 [] Tryz.func23 rfl (by simp) (by simp) (fr:= [(0,fV F)]) rfl ?_
 refine gO ?_
 refine cI (aU F hl) [0,1] Tryz.call35 ?_
 refine gO fun h=>?_
 refine aQ.is ?_
 simp
theorem aCf (F:TF) (hl:F.fin.length<=9223372036854775807) (h:aL F=0):Ct Tryz.prog 23 [fV F] [] (hpF F) 2 (fun v s=> ∃sp,v= .tup [.c (.sl 2 1 0 (onS F).1.length ((onS F).1.length+sp)),.c (.i 0)]/\s=⟨[],[(2,.arr true 3 .int (onS F).1 sp)],3⟩):=by
 refine ctW Tryz.tyOk 5 [] Tryz.func23 rfl (by simp) (by simp) (fr:= [(0,fV F)]) rfl ?_
 refine gO ?_
 refine cI (aU F hl) [0,1] Tryz.call35 ?_
 refine gO fun h=>?_
 refine cF (aDE F (aK h).big) [0,1] Tryz.call69 ?_
 rintro _ _ ⟨sp,rfl,rfl⟩
 refine gO ?_
 exact⟨[(2,some 3)],[(2,.arr true 3 .int (onS F).1 sp)],3,.tup [.c (.sl 2 1 0 (onS F).1.length ((onS F).1.length+sp)),.c (.i 0)],⟨by rfl,trivial,by simp⟩,by simp,sp,rfl,rfl⟩
theorem Yo {F:TF} (h:mL F):Bd F.st 100000000000000000 (onS F).1:=by rw[Nh h];exact Po h
theorem yX (F:TF) (hF:mL F):Ct Tryz.prog 66 [fV F] [] (hpF F) 2 (fun v s=>
  if(onS F).1.getD F.start.toNat 0= -1 then∃sp,v= .tup [.agg [.i F.st,.i F.start,.sl 2 1 0 F.fin.length (F.fin.length+sp),.v (.slice none 0 0)],.c (.i (-1))]/\s=⟨[],[(2,.arr true 3 .int F.fin sp)],3⟩
  else∃sp sp',v= .tup [.agg [.i F.st,.i F.start,.sl 2 1 0 F.fin.length (F.fin.length+sp),.sl 3 5 0 (dD (onS F).1 F.arcs).length ((dD (onS F).1 F.arcs).length+sp')],.c (.i ((onS F).1.getD F.start.toNat 0))]/\
   s=⟨[],[(2,.arr true 3 .int (eC (onS F).1 F.fin F.fin.length) sp),(3,.arr true 55 .arc (dD (onS F).1 F.arcs) sp')],4⟩):=by
 have hst:=hF.st
 have hsr:=hF.start
 have hfl:=hF.finl
 have hal:=hF.arcl
 have hD:=Yo hF
 have hDl:=hD.len
 have hDs:=hD.at hsr.1 hsr.2
 refine ctW Tryz.tyOk 10 [28,29,30,49,50,51] Tryz.func66 rfl (by simp) (by simp) (fr:= [(0,fV F)]) rfl ?_
 refine gO ?_
 refine cF (aDE F hF) [0,1] Tryz.call69 ?_
 rintro _ _ ⟨sd,rfl,rfl⟩
 generalize hDD:(onS F).1=D at*
 refine gD ?_
 refine jO (fun sp:Nat=>⟨[(1,.c (.ptr 2 0)),(2,.c (.ptr 3 0)),(3,.c (.i 0)),(4,.c (.sl 4 1 0 D.length (D.length+sd))),(5,.c (.ptr 6 0))],
  [(1,.arr false 55 .arc F.arcs 0),(0,.arr false 3 .int F.fin 0),(2,.box 25 (aA F)),(3,.box 25 [.i 0,.i 0,.v (.slice none 0 0),.v (.slice none 0 0)]),(4,.arr true 3 .int D sd),(5,.arr true 3 .int F.fin sp),(6,.box 25 [.i F.st,.i F.start,.sl 5 1 0 F.fin.length (F.fin.length+sp),.v (.slice none 0 0)])],7⟩) (fun _=>True) ?_ ?_
 ·refine gO ?_
  refine⟨?_,?_⟩
  ·refine cF (uH F.fin F.capF (by omega)) [0] Tryz.call100 ?_
   rintro _ _ ⟨sp,rfl,rfl⟩
   refine gO ?_
   refine⟨sp,[],⟨by rfl,?_,?_⟩,trivial⟩
   ·simp
   ·simp[aA]
  ·(conv=>whnf)
   refine cF (uH F.fin F.capF (by omega)) [0] Tryz.call100 ?_
   rintro _ _ ⟨sp,rfl,rfl⟩
   refine gO ?_
   refine⟨sp,[(5,some 6),(6,some 5)],⟨by rfl,?_,?_⟩,trivial⟩
   ·simp
   ·simp[aA]
 ·intro sp _
  refine gO ?_
  refine⟨fun h=>?_,fun h=>?_⟩
  ·rename_i h
   simp only[Nat.zero_add,EK.dflt]at h
   (conv=>whnf)
   exact⟨[(2,some 5)],[(2,.arr true 3 .int F.fin sp)],3,.tup [.agg [.i F.st,.i F.start,.sl 2 1 0 F.fin.length (F.fin.length+sp),.v (.slice none 0 0)],.c (.i (-1))],⟨by rfl,trivial,by simp⟩,by simp,(if_pos h).mpr ⟨sp,rfl,rfl⟩⟩
  ·rename_i h
   simp only[Nat.zero_add,EK.dflt]at h
   (conv=>whnf)
   refine aJ (fun k:Nat=>⟨[(1,.c (.ptr 2 0)),(2,.c (.ptr 3 0)),(3,.c (.i 0)),(4,.c (.sl 4 1 0 D.length (D.length+sd))),(5,.c (.ptr 6 0)),(28,.c (.sl 0 1 0 F.fin.length F.capF)),(29,.i F.fin.length),(30,.i k)],
    [(1,.arr false 55 .arc F.arcs 0),(0,.arr false 3 .int F.fin 0),(2,.box 25 (aA F)),(3,.box 25 [.i 0,.i 0,.v (.slice none 0 0),.v (.slice none 0 0)]),(4,.arr true 3 .int D sd),(5,.arr true 3 .int (eC D F.fin k) sp),(6,.box 25 [.i F.st,.i F.start,.sl 5 1 0 F.fin.length (F.fin.length+sp),.v (.slice none 0 0)])],7⟩)
    (fun k=>k<=F.fin.length) (fun k=>F.fin.length-k) 0 [] ⟨by rfl,?_,?_⟩ (by omega) ?_
   ·simp
   ·simp[aA,Mu]
   ·intro k hk
    have hpl:=jU D F.fin k
    have hpy:=Tr D F.fin k
    have hpn:=Ye D F.fin k
    refine gO ?_
    refine⟨fun h=>⟨fun h=>⟨?_,?_⟩,fun h=>?_⟩,fun h=>?_⟩
    ·rename_i h1 h2
     simp only[Nat.zero_add,Int.toNat_natCast,EK.dflt]at h2⊢
     have b1:=hF.fin _ (aB F.fin k 0 (by omega))
     have b2:=hD.bd _ (aB D k 0 (by omega))
     unfold InI
     omega
    ·simp only[Nat.zero_add,Int.toNat_natCast,EK.dflt]at h⊢
     have e:=hpy (by omega) h
     (conv=>whnf)
     refine⟨k+1,[],⟨by rfl,?_,?_⟩,by omega,by omega⟩
     ·simp
     ·simp[aA,e,EK.dflt]
    ·simp only[Nat.zero_add,Int.toNat_natCast,EK.dflt]at h⊢
     have e:=hpn h
     (conv=>whnf)
     refine⟨k+1,[],⟨by rfl,?_,?_⟩,by omega,by omega⟩
     ·simp
     ·simp[aA,e]
    ·clear hpy hpn
     have e:k=F.fin.length:=by omega
     subst e
     generalize hPF:eC D F.fin F.fin.length=pf at*
     (conv=>whnf)
     refine aJ (fun x:Nat×Nat=>⟨[(1,.c (.ptr 2 0)),(2,.c (.ptr 3 0)),(3,.c (.i 0)),(4,.c (.sl 4 1 0 D.length (D.length+sd))),(5,.c (.ptr 6 0)),(49,.c (.sl 1 5 0 F.arcs.length F.capA)),(50,.i F.arcs.length),(51,.i x.1)],
      [(1,.arr false 55 .arc F.arcs 0),(2,.box 25 (aA F)),(3,.box 25 [.i 0,.i 0,.v (.slice none 0 0),.v (.slice none 0 0)]),(4,.arr true 3 .int D sd),(5,.arr true 3 .int pf sp),(6,.box 25 [.i F.st,.i F.start,.sl 5 1 0 F.fin.length (F.fin.length+sp),.sl 7 5 0 (dD D (F.arcs.take x.1)).length ((dD D (F.arcs.take x.1)).length+x.2)]),(7,.arr true 55 .arc (dD D (F.arcs.take x.1)) x.2)],8⟩)
      (fun x=>x.1<=F.arcs.length) (fun x=>F.arcs.length-x.1) (0,0) [(7,none)] ⟨by rfl,?_,?_⟩ (by omega) ?_
     ·simp
     ·simp[aA,dD,cT]
     ·rintro⟨k,sp'⟩ hk
      simp only at hk⊢
      have hsn:=Mt D F.arcs k
      have hln:=vF D (F.arcs.take k)
      have htl:(F.arcs.take k).length<=3000:=by rw[List.length_take];omega
      generalize hpp:dD D (F.arcs.take k)=pl at hsn hln⊢
      (conv=>whnf)
      refine aG (fun hk2=>?_) (fun hk2=>?_)
      ·replace hsn:=hsn (by omega)
       have hx:=hF.arc _ (aB F.arcs k EK.arc.dflt (by omega))
       have e0:0+(k:Int).toNat=k:=by omega
       rw[<-e0]at hx hsn
       have f0:=hx.f0
       have f1:=hx.f1
       have t0:=hx.t0
       have t1:=hx.t1
       have w0:=hx.w0
       have w1:=hx.w1
       have bf: -1<=D.getD (0+(F.arcs.getD (0+(k:Int).toNat) EK.arc.dflt).f.toNat) EK.int.dflt/\D.getD (0+(F.arcs.getD (0+(k:Int).toNat) EK.arc.dflt).f.toNat) EK.int.dflt<=100000000000000000:=by simpa only[Nat.zero_add,EK.dflt]using hD.at f0 f1
       have bt: -1<=D.getD (0+(F.arcs.getD (0+(k:Int).toNat) EK.arc.dflt).t.toNat) EK.int.dflt/\D.getD (0+(F.arcs.getD (0+(k:Int).toNat) EK.arc.dflt).t.toNat) EK.int.dflt<=100000000000000000:=by simpa only[Nat.zero_add,EK.dflt]using hD.at t0 t1
       refine gO ?_
       refine⟨fun h=>⟨fun h=>?_,fun h=>?_⟩,fun h=>?_⟩
       ·rename_i h1
        simp only[Nat.zero_add,Int.toNat_natCast,EK.dflt]at h h1 hsn
        rw[tH,if_neg (not_or.2 ⟨h1,h⟩)]at hsn
        intro sp2
        refine gO ?_
        refine⟨(k+1,sp2),[(7,some 10)],⟨by rfl,?_,?_⟩,by simp only;omega,by simp only;omega⟩
        ·simp
        ·simp[aA,hsn,EK.dflt]
         exact(aV pl _ _ rfl).symm
       ·simp only[Nat.zero_add,Int.toNat_natCast,EK.dflt]at h hsn
        rw[tH,if_pos (.inr h)]at hsn
        simp only[List.append_nil]at hsn
        (conv=>whnf)
        refine⟨(k+1,sp'),[],⟨by rfl,?_,?_⟩,by simp only;omega,by simp only;omega⟩
        ·simp
        ·simp[aA,hsn]
       ·simp only[Nat.zero_add,Int.toNat_natCast,EK.dflt]at h hsn
        rw[tH,if_pos (.inl h)]at hsn
        simp only[List.append_nil]at hsn
        (conv=>whnf)
        refine⟨(k+1,sp'),[],⟨by rfl,?_,?_⟩,by simp only;omega,by simp only;omega⟩
        ·simp
        ·simp[aA,hsn]
      ·have e:F.arcs.take k=F.arcs:=List.take_of_length_le (by omega)
       rw[e]at hpp
       clear hsn
       refine gO ?_
       exact⟨[(2,some 5),(3,some 7)],[(2,.arr true 3 .int pf sp),(3,.arr true 55 .arc pl sp')],4,
        .tup [.agg [.i F.st,.i F.start,.sl 2 1 0 F.fin.length (F.fin.length+sp),.sl 3 5 0 pl.length (pl.length+sp')],.c (.i (D.getD F.start.toNat 0))],⟨by rfl,trivial,by simp⟩,by simp[EK.dflt],(if_neg ‹_›).mpr (by rw[hpp];exact⟨sp,sp',rfl,rfl⟩)⟩
def pS (F:TF) (v:SV) (s:S):Prop:=
 if(kZ F).getD F.start.toNat 0= -1 then∃sp,v= .tup [.agg [.i F.st,.i F.start,.sl 2 1 0 F.fin.length (F.fin.length+sp),.v (.slice none 0 0)],.c (.i (-1)),.c (.i 0)]/\s=⟨[],[(2,.arr true 3 .int F.fin sp)],3⟩
 else if Qn (dD (kZ F) F.arcs)=true then v= .tup [.agg [.i 0,.i 0,.v (.slice none 0 0),.v (.slice none 0 0)],.c (.i 0),.c (.i 2)]/\s=⟨[],[],2⟩
 else∃sp sp',v= .tup [.agg [.i F.st,.i F.start,.sl 2 1 0 F.fin.length (F.fin.length+sp),.sl 3 5 0 (dD (kZ F) F.arcs).length ((dD (kZ F) F.arcs).length+sp')],.c (.i ((kZ F).getD F.start.toNat 0)),.c (.i 0)]/\
  s=⟨[],[(2,.arr true 3 .int (eC (kZ F) F.fin F.fin.length) sp),(3,.arr true 55 .arc (dD (kZ F) F.arcs) sp')],4⟩
theorem aBe (F:TF) (hl:F.fin.length<=9223372036854775807) (h:aL F≠0):Ct Tryz.prog 22 [fV F] [] (hpF F) 2 (Is 2 (.tup [.agg [.i 0,.i 0,.v (.slice none 0 0),.v (.slice none 0 0)],.c (.i 0),.c (.i (aL F))])):=by
 refine ctW Tryz.tyOk 8 [] Tryz.func22 rfl (by simp) (by simp) (fr:= [(0,fV F)]) rfl ?_
 refine gO ?_
 refine cI (aU F hl) [0,1] Tryz.call35 ?_
 refine gO fun h=>?_
 refine aQ.is ?_
 simp
theorem Qm (F:TF) (hl:F.fin.length<=9223372036854775807) (h:aL F=0):Ct Tryz.prog 22 [fV F] [] (hpF F) 2 (pS F):=by
 have hF:=aK h
 have hal:=hF.arcl
 have hln:=vF (kZ F) F.arcs
 refine ctW Tryz.tyOk 8 [] Tryz.func22 rfl (by simp) (by simp) (fr:= [(0,fV F)]) rfl ?_
 refine gO ?_
 refine cI (aU F hl) [0,1] Tryz.call35 ?_
 refine gO fun h=>?_
 refine cF (yX F hF.big) [0,1] Tryz.call66 ?_
 intro v s hp
 rw[Nh hF.big]at hp
 unfold pS
 generalize hDD:kZ F=D at*
 by_cases hm:D.getD F.start.toNat 0= -1
 ·obtain⟨sp,rfl,rfl⟩:=(if_pos hm).mp hp
  refine gO ?_
  refine nA 55 .arc (args':= [.c (.sl 6 5 0 0 0),.c (.fn 68 [])]) (fun β=>by simp[SV.den,SA.den,SC.den,Env.add]) ?_
  (conv=>whnf)
  refine cI (dF [] 0 (by simp) 68 (fun a=>decide (a.w>1000000000)) Qo Tryz.call68) [6] Tryz.call67 ?_
  refine gO ?_
  exact⟨[(2,some 4)],[(2,.arr true 3 .int F.fin sp)],3,.tup [.agg [.i F.st,.i F.start,.sl 2 1 0 F.fin.length (F.fin.length+sp),.v (.slice none 0 0)],.c (.i (-1)),.c (.i 0)],⟨by rfl,trivial,by simp⟩,by simp,(if_pos hm).mpr ⟨sp,rfl,rfl⟩⟩
 ·obtain⟨sp,sp',rfl,rfl⟩:=(if_neg hm).mp hp
  generalize hpp:dD D F.arcs=pl at*
  generalize hPF:eC D F.fin F.fin.length=pf at*
  refine gO ?_
  refine cI (dF pl (pl.length+sp') (by omega) 68 (fun a=>decide (a.w>1000000000)) Qo Tryz.call68) [5] Tryz.call67 ?_
  by_cases hb:Qn pl=true
  ·have hb2:(pl.any fun a=>decide (a.w>1000000000))=true:=hb
   rw[hb2]
   refine gO ?_
   exact⟨[],[],2,.tup [.agg [.i 0,.i 0,.v (.slice none 0 0),.v (.slice none 0 0)],.c (.i 0),.c (.i 2)],⟨by rfl,trivial,by simp⟩,by simp,(if_neg hm).mpr ((if_pos hb).mpr ⟨rfl,rfl⟩)⟩
  ·have hb2:(pl.any fun a=>decide (a.w>1000000000))=false:=by
    cases hx:pl.any fun a=>decide (a.w>1000000000)with
    |false=>rfl
    |true=>exact absurd hx hb
   rw[hb2]
   refine gO ?_
   exact⟨[(2,some 4),(3,some 5)],[(2,.arr true 3 .int pf sp),(3,.arr true 55 .arc pl sp')],4,
    .tup [.agg [.i F.st,.i F.start,.sl 2 1 0 F.fin.length (F.fin.length+sp),.sl 3 5 0 pl.length (pl.length+sp')],.c (.i (D.getD F.start.toNat 0)),.c (.i 0)],⟨by rfl,trivial,by simp⟩,by simp[EK.dflt],(if_neg hm).mpr ((if_neg hb).mpr ⟨sp,sp',rfl,rfl⟩)⟩
def Ce:TF:=⟨0,0,[],[],0,0⟩
theorem aBI (F G:TF) (e w:Int) (h1:F.fin.length<=9223372036854775807) (h2:G.fin.length<=9223372036854775807) (h3:F.arcs.length<=9223372036854775807):
  Ct Tryz.prog 29 [fV F,.i e,.i w,gV G] [] (hpG F G) 4 (Is 4 (.b (decide (e=w)&&eW F (if w=0 then G else Ce)))):=by
 refine ctW Tryz.tyOk 9 [] Tryz.func29 rfl (by simp[gV]) (by simp) (fr:= [(0,fV F),(1,.i e),(2,.i w),(3,gV G)]) rfl ?_
 refine gO ?_
 refine⟨fun h=>⟨fun h=>?_,fun h=>?_⟩,fun h=>⟨fun h=>?_,fun h=>?_⟩⟩
 ·subst h
  (conv=>whnf)
  refine nA 3 .int (args':= [fV F,.a (.agg [.i 0,.i 0,.sl 6 1 0 0 0,.v (.slice none 0 0)])]) (fun β=>by simp[SV.den,SA.den,SC.den,Env.add]) ?_
  (conv=>whnf)
  refine nA 55 .arc (args':= [fV F,.a (.agg [.i 0,.i 0,.sl 6 1 0 0 0,.sl 7 5 0 0 0])]) (fun β=>by simp[SV.den,SA.den,SC.den,Env.add]) ?_
  (conv=>whnf)
  refine pN (jR F Ce h1 (by simp[Ce]) h3) [0,1,6,7] Tryz.call28 rfl (by simp[Ce]) (by simp[gV,Ce]) (by simp) ?_
  refine gO ?_
  refine aQ.is ?_
  simp[*]
 ·refine aQ.is ?_
  simp[h]
 ·subst h
  (conv=>whnf)
  refine pN (jR F G h1 h2 h3) [0,1,2,3] Tryz.call28 rfl (by simp) (by simp[gV]) (by simp) ?_
  refine gO ?_
  refine aQ.is ?_
  simp[*]
 ·(conv=>whnf)
  refine aQ.is ?_
  simp[h]
def Xt (l:List Int) (k i:Nat):Int:=if i<k\/l.length<=i+k then l.getD (l.length-1-i) 0 else l.getD i 0
def oR (l:List Int) (k:Nat):List Int:=(List.range l.length).map (Xt l k)
theorem Ip (l:List Int) (k:Nat):(oR l k).length=l.length:=by simp[oR]
theorem Ti (l:List Int):oR l 0=l:=by
 apply List.ext_getElem (by simp[oR])
 intro i h1 h2
 simp[oR,Xt,List.getD,h2]
 intro h3
 omega
theorem Xu (l:List Int) (k:Nat) (h:l.length<=2*k+1):oR l k=l.reverse:=by
 apply List.ext_getElem (by simp[oR])
 intro i h1 h2
 simp only[List.length_reverse]at h2
 have h3:l.length-1-i<l.length:=by omega
 simp only[oR,List.getElem_map,List.getElem_range,Xt,List.getElem_reverse]
 by_cases h4:i<k\/l.length<=i+k
 ·rw[if_pos h4];simp[List.getD,h3]
 ·rw[if_neg h4]
  have e:l.length-1-i=i:=by omega
  simp[List.getD,h2,e]
theorem Cw (l:List Int) (k i:Nat) (h:i<l.length):(oR l k).getD i 0=Xt l k i:=by simp[oR,List.getD,h]
theorem Tj (l:List Int) (k:Nat) (h:2*k+1<l.length):oR l (k+1)=((oR l k).set k ((oR l k).getD (l.length-1-k) 0)).set (l.length-1-k) ((oR l k).getD k 0):=by
 apply List.ext_getElem (by simp[oR])
 intro i h1 h2
 have h2':=h2
 simp only[List.length_set,Ip]at h2'
 simp only[Cw l k (l.length-1-k) (by omega),Cw l k k (by omega)]
 simp only[List.getElem_set]
 simp only[oR,List.getElem_map,List.getElem_range,Xt]
 by_cases e1:l.length-1-k=i
 ·rw[if_pos e1,if_pos (by omega),if_neg (by omega)]
  congr 1;omega
 ·rw[if_neg e1]
  by_cases e2:k=i
  ·rw[if_pos e2,if_pos (by omega),if_neg (by omega)]
   congr 1;omega
  ·rw[if_neg e2]
   by_cases h4:i<k\/l.length<=i+k
   ·rw[if_pos h4,if_pos (by omega)]
   ·rw[if_neg h4,if_neg (by omega)]
theorem vA (l:List Int) (cap sp:Nat) (hl:l.length<=1000000):Ct Tryz.prog 72 [.c (.sl 0 1 0 l.length cap)] [] [(0,.arr true 3 .int l sp)] 1 (fun v s=>v= .u/\s=⟨[],[(0,.arr true 3 .int l.reverse sp)],1⟩):=by
 refine ctW Tryz.tyOk 4 [] Tryz.func72 rfl (by simp) (by simp) (fr:= [(0,.c (.sl 0 1 0 l.length cap))]) rfl ?_
 refine gO ?_
 refine aJ (fun k:Nat=>⟨[(0,.c (.sl 0 1 0 l.length cap)),(2,.i k),(3,.i ((l.length:Int)-1-k))],[(0,.arr true 3 .int (oR l k) sp)],1⟩) (fun k=>k<=l.length) (fun k=>l.length-k) 0 [] ⟨by rfl,?_,?_⟩ (by omega) ?_
 ·simp
 ·simp[Ti]
 ·intro k hk
  have hrl:=Ip l k
  have hst:=Tj l k
  have hen:=Xu l k
  have e1:((l.length:Int)-1-k).toNat=l.length-1-k:=by omega
  refine gO ?_
  refine⟨fun h=>?_,fun h=>?_⟩
  ·replace hst:=hst (by omega)
   (conv=>whnf)
   refine⟨k+1,[],⟨by rfl,?_,?_⟩,by omega,by omega⟩
   ·simp
    omega
   ·simp
    rw[hst]
    simp[e1,EK.dflt]
  ·exact⟨[],[(0,.arr true 3 .int l.reverse sp)],1,.u,⟨by rfl,trivial,by simp[hen];exact(hen (by omega)).symm⟩,by simp,rfl,rfl⟩
def Lc (F:TF):Int×Int:=dT (cY F).1 F.fin F.fin.length
def Be (F:TF):List Int:=(sQ F.arcs (cY F).2 F.st.toNat (Lc F).1).reverse
theorem Vx {F:TF} (h:FOk F):aCc F.arcs (lL F) (cY F).1 (cY F).2:=by
 have hb:=pP h.big
 have:=Mi (l:=F.arcs) (fun a ha=>h.big.arc a ha) hb
 unfold cY
 rw[<-mI F,List.map_id]
 exact this
theorem Pb {F:TF} (h:FOk F):(cY F).1.length=F.st.toNat/\(cY F).2.length=F.st.toNat:=by
 have hb:=pP h.big
 have:=lG (l:=F.arcs) (fun a ha=>h.big.arc a ha) hb
 unfold cY
 rw[<-mI F,List.map_id]
 exact⟨this.1.len,this.2⟩
theorem aBY (F:TF) (hl:F.fin.length<=9223372036854775807) (h:aL F≠0):Ct Tryz.prog 24 [fV F] [] (hpF F) 2 (Is 2 (.tup [.c (.v (.slice none 0 0)),.c (.i 0),.c (.i (aL F))])):=by
 refine ctW Tryz.tyOk 13 [24,25,26] Tryz.func24 rfl (by simp) (by simp) (fr:= [(0,fV F)]) rfl ?_
 refine gO ?_
 refine cI (aU F hl) [0,1] Tryz.call35 ?_
 refine gO fun h=>?_
 refine aQ.is ?_
 simp
theorem Sb (F:TF) (hl:F.fin.length<=9223372036854775807) (h:aL F=0):Ct Tryz.prog 24 [fV F] [] (hpF F) 2 (fun v s=> ∃sp,v= .tup [.c (.sl 2 1 0 (Be F).length ((Be F).length+sp)),.c (.i (Lc F).2),.c (.i 0)]/\s=⟨[],[(2,.arr true 3 .int (Be F) sp)],3⟩):=by
 have hF:=aK h
 have hst:=hF.st
 have hfl:=hF.finl
 have hal:=hF.arcl
 obtain⟨hAl,hBl⟩:=Pb hF
 obtain⟨rk,hrk,hby⟩:=Vx hF
 have hAb:Bd F.st 100000000000000000 (cY F).1:=by rw[Vw hF];exact Vb hF.big
 have hsp:=Bf (cY F).1 F.fin (fun v hv=>(hAb.bd v hv).1) (fun v hv=>(hF.fin v hv).1) (by omega)
 rw[mI]at hrk hby
 refine ctW Tryz.tyOk 13 [24,25,26] Tryz.func24 rfl (by simp) (by simp) (fr:= [(0,fV F)]) rfl ?_
 refine gO ?_
 refine cI (aU F hl) [0,1] Tryz.call35 ?_
 refine gO fun h=>?_
 refine cF (Lp F hF) [0,1] Tryz.call70 ?_
 rintro _ _ ⟨rfl,rfl⟩
 unfold Be Lc
 generalize hA:(cY F).1=A at*
 generalize hB:(cY F).2=B at*
 refine gO ?_
 refine aJ (fun k:Nat=>⟨[(1,.c (.ptr 2 0)),(6,.c (.sl 3 1 0 F.st.toNat F.st.toNat)),(7,.c (.sl 4 1 0 F.st.toNat F.st.toNat)),(8,.i (dT A F.fin k).1),(9,.i (dT A F.fin k).2),(24,.c (.sl 0 1 0 F.fin.length F.capF)),(25,.i F.fin.length),(26,.i k)],
  [(0,.arr false 3 .int F.fin 0),(1,.arr false 55 .arc F.arcs 0),(2,.box 25 (aA F)),(3,.arr true 3 .int A 0),(4,.arr true 3 .int B 0)],5⟩) (fun k=>k<=F.fin.length) (fun k=>F.fin.length-k) 0 [] ⟨by rfl,?_,?_⟩ (by omega) ?_
 ·simp[dT]
 ·simp[aA]
 ·intro k hk
  have hs:=hsp k (by omega)
  (conv=>whnf)
  refine aG (fun hk2=>?_) (fun hk2=>?_)
  ·have b1:=hF.fin _ (aB F.fin k 0 (by omega))
   have b2:=hAb.bd _ (aB A k 0 (by omega))
   have e0:0+(k:Int).toNat=k:=by omega
   have e1:F.fin.getD (0+(k:Int).toNat) EK.int.dflt=F.fin.getD k 0:=by rw[e0];rfl
   have e2:A.getD (0+(k:Int).toNat) EK.int.dflt=A.getD k 0:=by rw[e0];rfl
   refine gO ?_
   refine⟨fun h=>⟨fun h=>?_,fun h=>?_⟩,fun h=>?_⟩
   ·rename_i h1
    rw[e1]at h1
    rw[e2]at h
    (conv=>whnf)
    refine cI (Lb (A.getD (0+(k:Int).toNat) EK.int.dflt+F.fin.getD (0+(k:Int).toNat) EK.int.dflt) (dT A F.fin k).2) [] Tryz.call71 ?_
    refine gO ?_
    refine⟨fun h=>?_,fun h=>?_⟩
    ·rw[e1,e2]at h
     have e:=Vp h1 ‹¬A.getD k 0= -1› h
     (conv=>whnf)
     refine⟨k+1,[],⟨by rfl,?_,?_⟩,by omega,by omega⟩
     ·simp[e,e1,e2]
      exact rfl
     ·simp[aA]
    ·rw[e1,e2]at h
     have e:=Bh (c:=A) (fin:=F.fin) (k:=k) (.inr (.inr h))
     (conv=>whnf)
     refine⟨k+1,[],⟨by rfl,?_,?_⟩,by omega,by omega⟩
     ·simp[e]
     ·simp[aA]
   ·rw[e2]at h
    have e:=Bh (c:=A) (fin:=F.fin) (k:=k) (.inr (.inl h))
    (conv=>whnf)
    refine⟨k+1,[],⟨by rfl,?_,?_⟩,by omega,by omega⟩
    ·simp[e]
    ·simp[aA]
   ·rw[e1]at h
    have e:=Bh (c:=A) (fin:=F.fin) (k:=k) (.inl h)
    (conv=>whnf)
    refine⟨k+1,[],⟨by rfl,?_,?_⟩,by omega,by omega⟩
    ·simp[e]
    ·simp[aA]
  ·have e:k=F.fin.length:=by omega
   subst e
   generalize dT A F.fin F.fin.length=R at*
   clear hsp
   refine gO ?_
   refine aJ (fun x:List Int×Nat×Int×Nat=>⟨[(1,.c (.ptr 2 0)),(6,.c (.sl 3 1 0 F.st.toNat F.st.toNat)),(7,.c (.sl 4 1 0 F.st.toNat F.st.toNat)),(8,.i x.2.2.1),(9,.i R.2),(12,.c (.sl 5 1 0 x.1.length (x.1.length+x.2.1)))],
    [(0,.arr false 3 .int F.fin 0),(1,.arr false 55 .arc F.arcs 0),(2,.box 25 (aA F)),(3,.arr true 3 .int A 0),(4,.arr true 3 .int B 0),(5,.arr true 3 .int x.1 x.2.1)],6⟩)
    (fun x=>x.1++sQ F.arcs B x.2.2.2 x.2.2.1=sQ F.arcs B F.st.toNat R.1/\(0<=x.2.2.1->x.2.2.1<F.st/\rk x.2.2.1.toNat<x.2.2.2/\A.getD x.2.2.1.toNat 0≠ -1)/\x.1.length+x.2.2.2<=F.st.toNat) (fun x=>x.2.2.2) ([],0,R.1,F.st.toNat) [(5,none)] ⟨by rfl,?_,?_⟩ ?_ ?_
   ·simp
   ·simp[aA,cT]
   ·refine⟨rfl,fun h0=>?_,by simp⟩
    rcases hs with⟨q1,_⟩|⟨_,q2,q3,_⟩
    ·have h0:0<=R.1:=h0
     omega
    ·exact⟨by show R.1<F.st;omega,hrk R.1.toNat (by omega) q3,q3⟩
   ·rintro⟨l,sp,v,fu⟩ ⟨i1,i2,i3⟩
    simp only at i1 i2 i3⊢
    (conv=>whnf)
    refine aG (fun hv=>?_) (fun hv=>?_)
    ·obtain⟨j1,j2,j3⟩:=i2 hv
     have hbv:=hby v.toNat (by omega)
     have eB:B.getD (0+v.toNat) EK.int.dflt=B.getD v.toNat (-1):=by
      rw[Nat.zero_add]
      simp[List.getD,show v.toNat<B.length by omega]
     rcases hbv with⟨h1,_⟩|⟨i,a,h1,h2,h3,h4,h5,h6,h7⟩
     ·rw[h1]at eB
      have hw:sQ F.arcs B fu v=[]:=Pk (by rw[h1];omega) fu
      rw[hw,List.append_nil]at i1
      refine gO fun h=>?_
      refine cF (vA l (l.length+sp) sp (by omega)) [5] Tryz.call72 ?_
      rintro _ _ ⟨rfl,rfl⟩
      refine gO ?_
      rw[<-i1]
      exact⟨[(2,some 5)],[(2,.arr true 3 .int l.reverse sp)],3,.tup [.c (.sl 2 1 0 l.reverse.length (l.reverse.length+sp)),.c (.i R.2),.c (.i 0)],⟨by rfl,trivial,by simp⟩,by simp,sp,rfl,rfl⟩
     ·have hi:=(List.getElem?_eq_some_iff.1 h2).1
      have hga:F.arcs.getD i EK.arc.dflt=a:=by simp[List.getD,h2]
      rw[h1]at eB
      obtain⟨fu',rfl⟩: ∃fu',fu=fu'+1:=⟨fu-1,by omega⟩
      have hw:=Wi (arcs:=F.arcs) (b:=B) (v:=v) ⟨hv,by rw[h1];omega⟩ fu'
      rw[h1,Int.toNat_natCast,hga]at hw
      rw[hw]at i1
      have hao:=hF.arc a (List.mem_of_getElem? h2)
      have f0:=hao.f0
      have f1:=hao.f1
      have hga2:F.arcs.getD (0+(B.getD (0+v.toNat) EK.int.dflt).toNat) EK.arc.dflt=a:=by rw[eB,Int.toNat_natCast,Nat.zero_add,hga]
      refine gO fun h=>?_
      intro sp2
      refine gO ?_
      refine⟨(l++[(i:Int)],sp2,a.f,fu'),[(5,some 7)],⟨by rfl,?_,?_⟩,⟨by simpa using i1,fun _=>⟨f1,by simp only;omega,h6⟩,by simp only[List.length_append,List.length_cons,List.length_nil];omega⟩,by simp only;omega⟩
      ·simp only[hga2]
       simp
      ·rw[eB]
       simp[aA]
       exact(aV l _ _ rfl).symm
    ·have hw:sQ F.arcs B fu v=[]:=Pk (by omega) fu
     rw[hw,List.append_nil]at i1
     refine gO ?_
     refine cF (vA l (l.length+sp) sp (by omega)) [5] Tryz.call72 ?_
     rintro _ _ ⟨rfl,rfl⟩
     refine gO ?_
     rw[<-i1]
     exact⟨[(2,some 5)],[(2,.arr true 3 .int l.reverse sp)],3,.tup [.c (.sl 2 1 0 l.reverse.length (l.reverse.length+sp)),.c (.i R.2),.c (.i 0)],⟨by rfl,trivial,by simp⟩,by simp,sp,rfl,rfl⟩
def aN:TF:=⟨2,0,[-1,1],[⟨0,1,2,1,5⟩],2,1⟩
theorem bX:aL aN=0:=by decide
theorem Ua:cY aN=([0,5],[-1,0]):=by decide
theorem aCM:(onS aN).1=[6,1]:=by decide
theorem aCL:kZ aN=[6,1]:=by decide
theorem Tz:Lc aN=(1,6):=by decide
theorem Ty:Be aN=[0]:=by decide
theorem Ym {v:SV} {s:S} (h:pS aN v s): ∃sp sp',v= .tup [.agg [.i 2,.i 0,.sl 2 1 0 2 (2+sp),.sl 3 5 0 1 (1+sp')],.c (.i 6),.c (.i 0)]/\s=⟨[],[(2,.arr true 3 .int [-1,0] sp),(3,.arr true 55 .arc [⟨0,1,2,1,0⟩] sp')],4⟩:=by
 unfold pS at h
 rw[aCL]at h
 rw[if_neg (by decide),if_neg (by decide)]at h
 obtain⟨sp,sp',rfl,rfl⟩:=h
 exact⟨sp,sp',rfl,rfl⟩
theorem Fe:Ct Tryz.prog 9 [] [] [] 0 (Is 0 (.b true)):=by
 refine ctW Tryz.tyOk 11 [] Tryz.func9 rfl (by simp) (by simp) (fr:= []) rfl ?_
 refine gO ?_
 refine cF (eK) [] Tryz.call33 ?_
 rintro _ _ ⟨rfl,rfl⟩
 (conv=>whnf)
 refine aO (aBJ aN (by decide) bX) [0,1] Tryz.call41 rfl (by simp[aN,cO]) (by simp[aN,cO]) (by simp) ?_
 rintro _ _ ⟨rfl,rfl⟩
 rw[Ua]
 (conv=>whnf)
 refine cF (eK) [] Tryz.call33 ?_
 rintro _ _ ⟨rfl,rfl⟩
 (conv=>whnf)
 refine aO (aCf aN (by decide) bX) [3,4] Tryz.call23 rfl (by simp[aN,cO]) (by simp[aN,cO]) (by simp) ?_
 rintro _ _ ⟨sp1,rfl,rfl⟩
 rw[aCM]
 (conv=>whnf)
 refine cF (eK) [] Tryz.call33 ?_
 rintro _ _ ⟨rfl,rfl⟩
 (conv=>whnf)
 refine aO (Sb aN (by decide) bX) [6,7] Tryz.call24 rfl (by simp[aN,cO]) (by simp[aN,cO]) (by simp) ?_
 rintro _ _ ⟨sp2,rfl,rfl⟩
 rw[Ty,Tz]
 (conv=>whnf)
 refine cF (eK) [] Tryz.call33 ?_
 rintro _ _ ⟨rfl,rfl⟩
 (conv=>whnf)
 refine aO (Qm aN (by decide) bX) [9,10] Tryz.call22 rfl (by simp[aN,cO]) (by simp[aN,cO]) (by simp) ?_
 intro v s hp
 obtain⟨sp3,sp4,rfl,rfl⟩:=Ym hp
 clear hp
 (conv=>whnf)
 refine aO (mP [0,5] [0,5] 2 2 (by decide) (by decide)) [2,14] Tryz.call42 rfl (by simp[aN]) (by simp[aN]) (by simp) ?_
 rintro _ _ ⟨rfl,rfl⟩
 (conv=>whnf)
 refine aO (mP [6,1] [6,1] (2+sp1) 2 (by decide) (by decide)) [5,15] Tryz.call42 rfl (by simp[aN]) (by simp[aN]) (by simp) ?_
 rintro _ _ ⟨rfl,rfl⟩
 refine gO ?_
 refine aQ.is ?_
 simp
end Go.Fw
