/- Walks of the functions: what each computes. -/
import Derived.Test.YtiejplibehppnaaQ10
import Derived.Test.YtiejplibehppnaaQ07

set_option linter.unusedSimpArgs false
set_option linter.unusedVariables false

namespace Go.Fw
open Go Go.Proofs

def gV (F : TF) : SV := .a (.agg [.i F.st, .i F.start, .sl 2 1 0 F.fin.length F.capF, .sl 3 5 0 F.arcs.length F.capA])
abbrev hpG (F G : TF) : List (Nat × SO) := [(0, .arr false 3 .int F.fin 0), (1, .arr false 47 .arc F.arcs 0), (2, .arr false 3 .int G.fin 0), (3, .arr false 47 .arc G.arcs 0)]

set_option maxHeartbeats 4000000 in
set_option maxRecDepth 20000 in
theorem sameFst_c (F G : TF) (h1 : F.fin.length ≤ 9223372036854775807) (h2 : G.fin.length ≤ 9223372036854775807) (h3 : F.arcs.length ≤ 9223372036854775807) : Ct Try.prog 31 [fV F, gV G] [] (hpG F G) 4 (Is 4 (.b (sameF F G))) := by
  refine ctW Try.tyOk 6 [] Try.func31 rfl (by simp [SV.lt, SA.lt, SC.lt, fV, gV]) (by simp) (fr := [(0, fV F), (1, gV G)]) rfl ?_
  repeat' (first | exact rfl | ((conv => whnf); first | refine condP_mk (fun h => ?_) (fun h => ?_) | refine Ob.mk ?_ ?_ | refine Both.mk ?_ ?_))
  · simp only [bne_iff_ne] at h
    refine Back.is ?_
    simp [eqV, eqA, eqC, sameF, h]
  · simp only [bne_iff_ne] at h
    refine Back.is ?_
    simp [eqV, eqA, eqC, sameF, h]
  rename_i e1
  simp only [bne_eq_false_iff_eq] at e1 h
  have e2 := h
  clear h
  (conv => whnf)
  refine callI (sameInts_c F.fin G.fin F.capF G.capF h1 h2) [0, 2] Try.call24 rfl (by simp [eqLs, eqL, eqO, eqC, eqCs, rn, renOf, look_cons, look, EK.cast]) (by simp [appN, ptrs, eqVL, eqV, eqA, eqC, rn, renOf, look_cons, look]) (by simp [appN, ptrs, SV.lt, SA.lt, SC.lt]) ?_
  repeat' (first | exact rfl | ((conv => whnf); first | refine condP_mk (fun h => ?_) (fun h => ?_) | refine Ob.mk ?_ ?_ | refine Both.mk ?_ ?_))
  · simp only [Bool.not_eq_true', decide_eq_false_iff_not] at h
    refine Back.is ?_
    simp [eqV, eqA, eqC, sameF, h]
  · simp only [bne_iff_ne] at h
    have : F.arcs ≠ G.arcs := fun e => h (by rw [e])
    refine Back.is ?_
    simp [eqV, eqA, eqC, sameF, this]
  rename_i e3
  simp only [Bool.not_eq_false', decide_eq_true_eq, bne_eq_false_iff_eq] at e3 h
  have e4 : F.arcs.length = G.arcs.length := by omega
  clear h
  (conv => whnf)
  refine loopI (fun k : Nat => ⟨[(2, .c (.ptr 4 0)), (3, .c (.ptr 5 0)), (4, .b false), (5, .i k)], [(1, .arr false 47 .arc F.arcs 0), (3, .arr false 47 .arc G.arcs 0), (4, .box 25 [.i F.st, .i F.start, .sl 0 1 0 F.fin.length F.capF, .sl 1 5 0 F.arcs.length F.capA]), (5, .box 25 [.i G.st, .i G.start, .sl 2 1 0 G.fin.length G.capF, .sl 3 5 0 G.arcs.length G.capA])], 6⟩) (fun k => k ≤ F.arcs.length ∧ ∀ j, j < k → F.arcs.getD j EK.arc.dflt = G.arcs.getD j EK.arc.dflt) (fun k => F.arcs.length - k) 0 [] ⟨by rfl, ?_, ?_⟩ (by simp) ?_
  · simp [eqFr, eqHp, eqV, eqA, eqC, eqO, eqCs, eqAs, look_cons, look, rn, EK.cast, EK.sz, eqCaps]
  · simp [eqFr, eqHp, eqV, eqA, eqC, eqO, eqCs, eqAs, look_cons, look, rn, EK.cast, EK.sz, eqCaps]
  · intro k ⟨hk1, hk2⟩
    repeat' (first | exact rfl | ((conv => whnf); first | refine condP_mk (fun h => ?_) (fun h => ?_) | refine Ob.mk ?_ ?_ | refine Both.mk ?_ ?_))
    refine draw_of Try.mixed Try.tyOk 60 (by kernel_rfl) ?_
    repeat' (first | exact rfl | ((conv => whnf); first | refine condP_mk (fun h => ?_) (fun h => ?_) | refine Ob.mk ?_ ?_ | refine Both.mk ?_ ?_))
    · simp only [decide_eq_true_eq] at h; omega
    · simp only [decide_eq_true_eq] at h; omega
    · simp only [decide_eq_true_eq] at h; omega
    · simp only [decide_eq_true_eq] at h; omega
    · rw [arcEq] at h
      simp only [Bool.not_eq_true', decide_eq_false_iff_not] at h
      have : F.arcs ≠ G.arcs := fun e => h (by rw [e])
      refine Back.is ?_
      simp [eqV, eqA, eqC, sameF, this]
    · rename_i hk
      simp only [decide_eq_true_eq] at hk
      unfold InI; omega
    · rename_i hk
      rw [arcEq] at h
      simp only [Bool.not_eq_false', decide_eq_true_eq, Nat.zero_add, Int.toNat_natCast] at h hk
      (conv => whnf)
      refine ⟨k + 1, [], ⟨by rfl, ?_, ?_⟩, ⟨by omega, fun j hj => ?_⟩, by omega⟩
      · simp [eqFr, eqHp, eqV, eqA, eqC, eqO, eqCs, eqAs, look_cons, look, rn, EK.cast, EK.sz, eqCaps]
      · simp [eqFr, eqHp, eqV, eqA, eqC, eqO, eqCs, eqAs, look_cons, look, rn, EK.cast, EK.sz, eqCaps]
      · exact if e : j = k then e ▸ h else hk2 j (by omega)
    · simp only [decide_eq_false_iff_not] at h
      have : F.arcs = G.arcs := sameTakeA _ _ e4 fun j hj => hk2 j (by omega)
      refine Back.is ?_
      simp [eqV, eqA, eqC, sameF, this, e1, e2, e3]
end Go.Fw

namespace Go.Fw
open Go Go.Proofs

end Go.Fw

namespace Go.Fw
open Go Go.Proofs

end Go.Fw

namespace Go.Fw
open Go Go.Proofs

def aheadS (F : TF) : List Int × List Int := settled (F.arcs.map id) F.st.toNat (begun F)
def onS (F : TF) : List Int × List Int := settled (F.arcs.map swap) F.st.toNat F.fin

end Go.Fw

namespace Go.Fw
open Go Go.Proofs

/-- A transducer's cells, its lists wherever. -/
def cellsF (F : TF) (i j : Nat) (lf cf la ca : Nat) : List SC := [.i F.st, .i F.start, .sl i 1 0 lf cf, .sl j 5 0 la ca]

end Go.Fw

namespace Go.Fw
open Go Go.Proofs

end Go.Fw

namespace Go.Fw
open Go Go.Proofs

/-- What pushing answers. -/
def PushPost (F : TF) (v : SV) (s : S) : Prop :=
  if (toOf F).getD F.start.toNat 0 = -1 then ∃ sp, v = .tup [.agg [.i F.st, .i F.start, .sl 2 1 0 F.fin.length (F.fin.length + sp), .v (.slice none 0 0)], .c (.i (-1)), .c (.i 0)] ∧ s = ⟨[], [(2, .arr true 3 .int F.fin sp)], 3⟩
  else if pushBig (pushL (toOf F) F.arcs) = true then v = .tup [.agg [.i 0, .i 0, .v (.slice none 0 0), .v (.slice none 0 0)], .c (.i 0), .c (.i 2)] ∧ s = ⟨[], [], 2⟩
  else ∃ sp sp', v = .tup [.agg [.i F.st, .i F.start, .sl 2 1 0 F.fin.length (F.fin.length + sp), .sl 3 5 0 (pushL (toOf F) F.arcs).length ((pushL (toOf F) F.arcs).length + sp')], .c (.i ((toOf F).getD F.start.toNat 0)), .c (.i 0)] ∧
      s = ⟨[], [(2, .arr true 3 .int (pushF (toOf F) F.fin F.fin.length) sp), (3, .arr true 47 .arc (pushL (toOf F) F.arcs) sp')], 4⟩

/-- A transducer of which nothing is told. -/
def zeroF : TF := ⟨0, 0, [], [], 0, 0⟩

set_option maxHeartbeats 4000000 in
set_option maxRecDepth 20000 in
theorem fstIs_c (F G : TF) (e w : Int) (h1 : F.fin.length ≤ 9223372036854775807) (h2 : G.fin.length ≤ 9223372036854775807) (h3 : F.arcs.length ≤ 9223372036854775807) :
    Ct Try.prog 25 [fV F, .i e, .i w, gV G] [] (hpG F G) 4 (Is 4 (.b (decide (e = w) && sameF F (if w = 0 then G else zeroF)))) := by
  refine ctW Try.tyOk 9 [] Try.func25 rfl (by simp [SV.lt, SA.lt, SC.lt, fV, gV]) (by simp) (fr := [(0, fV F), (1, .i e), (2, .i w), (3, gV G)]) rfl ?_
  repeat' (first | exact rfl | ((conv => whnf); first | refine condP_dec (fun h => absurd h (by omega)) (fun h => ?_) | refine condP_dec (fun h => ?_) (fun h => absurd h (by omega)) | refine condP_dec (fun h => ?_) (fun h => ?_) | refine condP_ndec (fun h => absurd h (by omega)) (fun h => ?_) | refine condP_ndec (fun h => ?_) (fun h => absurd h (by omega)) | refine condP_ndec (fun h => ?_) (fun h => ?_) | refine condP_beq (fun h => absurd h (by omega)) (fun h => ?_) | refine condP_beq (fun h => ?_) (fun h => absurd h (by omega)) | refine condP_beq (fun h => ?_) (fun h => ?_) | refine condP_bne (fun h => absurd h (by omega)) (fun h => ?_) | refine condP_bne (fun h => ?_) (fun h => absurd h (by omega)) | refine condP_bne (fun h => ?_) (fun h => ?_) | refine condP_mk (fun h => ?_) (fun h => ?_) | refine Ob.mk (by (first | omega | (simp only [InI, nmin, List.length_append, List.length_replicate, List.length_cons, List.length_nil, List.length_map, List.length_set, List.length_take, List.length_drop, List.length_reverse, List.length_range, Nat.zero_add, Nat.add_zero, Int.toNat_natCast, EK.sz]; omega) | (simp only [InI, nmin, List.length_append, List.length_replicate, List.length_cons, List.length_nil, List.length_map, List.length_set, List.length_take, List.length_drop, List.length_reverse, List.length_range, Nat.zero_add, Nat.add_zero, Int.toNat_natCast, EK.sz] at *; omega))) ?_ | refine Ob.mk ?_ ?_ | refine Both.mk ?_ ?_ | refine draw_of Try.mixed Try.tyOk 60 (by kernel_rfl) ?_))
  · subst h
    (conv => whnf)
    refine callNil 3 .int (args' := [fV F, .a (.agg [.i 0, .i 0, .sl 6 1 0 0 0, .v (.slice none 0 0)])]) (fun β => by simp [SV.den, SA.den, SC.den, Env.add, appN, ptrs, fV]) ?_
    (conv => whnf)
    refine callNil 47 .arc (args' := [fV F, .a (.agg [.i 0, .i 0, .sl 6 1 0 0 0, .sl 7 5 0 0 0])]) (fun β => by simp [SV.den, SA.den, SC.den, Env.add, appN, ptrs, fV]) ?_
    (conv => whnf)
    refine callI (sameFst_c F zeroF h1 (by simp [zeroF]) h3) [0, 1, 6, 7] Try.call31 rfl (by simp [eqLs, eqL, eqO, eqC, eqCs, rn, renOf, look_cons, look, EK.cast, zeroF]) (by simp [appN, ptrs, eqVL, eqV, eqA, eqC, eqCs, rn, renOf, look_cons, look, fV, gV, zeroF]) (by simp [appN, ptrs, SV.lt, SA.lt, SC.lt, fV]) ?_
    repeat' (first | exact rfl | ((conv => whnf); first | refine condP_dec (fun h => absurd h (by omega)) (fun h => ?_) | refine condP_dec (fun h => ?_) (fun h => absurd h (by omega)) | refine condP_dec (fun h => ?_) (fun h => ?_) | refine condP_ndec (fun h => absurd h (by omega)) (fun h => ?_) | refine condP_ndec (fun h => ?_) (fun h => absurd h (by omega)) | refine condP_ndec (fun h => ?_) (fun h => ?_) | refine condP_beq (fun h => absurd h (by omega)) (fun h => ?_) | refine condP_beq (fun h => ?_) (fun h => absurd h (by omega)) | refine condP_beq (fun h => ?_) (fun h => ?_) | refine condP_bne (fun h => absurd h (by omega)) (fun h => ?_) | refine condP_bne (fun h => ?_) (fun h => absurd h (by omega)) | refine condP_bne (fun h => ?_) (fun h => ?_) | refine condP_mk (fun h => ?_) (fun h => ?_) | refine Ob.mk (by (first | omega | (simp only [InI, nmin, List.length_append, List.length_replicate, List.length_cons, List.length_nil, List.length_map, List.length_set, List.length_take, List.length_drop, List.length_reverse, List.length_range, Nat.zero_add, Nat.add_zero, Int.toNat_natCast, EK.sz]; omega) | (simp only [InI, nmin, List.length_append, List.length_replicate, List.length_cons, List.length_nil, List.length_map, List.length_set, List.length_take, List.length_drop, List.length_reverse, List.length_range, Nat.zero_add, Nat.add_zero, Int.toNat_natCast, EK.sz] at *; omega))) ?_ | refine Ob.mk ?_ ?_ | refine Both.mk ?_ ?_ | refine draw_of Try.mixed Try.tyOk 60 (by kernel_rfl) ?_))
    refine Back.is ?_
    simp [eqV, eqA, eqC, *]
  · (conv => whnf)
    refine Back.is ?_
    simp [eqV, eqA, eqC, h]
  · subst h
    (conv => whnf)
    refine callI (sameFst_c F G h1 h2 h3) [0, 1, 2, 3] Try.call31 rfl (by simp [eqLs, eqL, eqO, eqC, eqCs, rn, renOf, look_cons, look, EK.cast]) (by simp [appN, ptrs, eqVL, eqV, eqA, eqC, eqCs, rn, renOf, look_cons, look, fV, gV]) (by simp [appN, ptrs, SV.lt, SA.lt, SC.lt, fV]) ?_
    repeat' (first | exact rfl | ((conv => whnf); first | refine condP_dec (fun h => absurd h (by omega)) (fun h => ?_) | refine condP_dec (fun h => ?_) (fun h => absurd h (by omega)) | refine condP_dec (fun h => ?_) (fun h => ?_) | refine condP_ndec (fun h => absurd h (by omega)) (fun h => ?_) | refine condP_ndec (fun h => ?_) (fun h => absurd h (by omega)) | refine condP_ndec (fun h => ?_) (fun h => ?_) | refine condP_beq (fun h => absurd h (by omega)) (fun h => ?_) | refine condP_beq (fun h => ?_) (fun h => absurd h (by omega)) | refine condP_beq (fun h => ?_) (fun h => ?_) | refine condP_bne (fun h => absurd h (by omega)) (fun h => ?_) | refine condP_bne (fun h => ?_) (fun h => absurd h (by omega)) | refine condP_bne (fun h => ?_) (fun h => ?_) | refine condP_mk (fun h => ?_) (fun h => ?_) | refine Ob.mk (by (first | omega | (simp only [InI, nmin, List.length_append, List.length_replicate, List.length_cons, List.length_nil, List.length_map, List.length_set, List.length_take, List.length_drop, List.length_reverse, List.length_range, Nat.zero_add, Nat.add_zero, Int.toNat_natCast, EK.sz]; omega) | (simp only [InI, nmin, List.length_append, List.length_replicate, List.length_cons, List.length_nil, List.length_map, List.length_set, List.length_take, List.length_drop, List.length_reverse, List.length_range, Nat.zero_add, Nat.add_zero, Int.toNat_natCast, EK.sz] at *; omega))) ?_ | refine Ob.mk ?_ ?_ | refine Both.mk ?_ ?_ | refine draw_of Try.mixed Try.tyOk 60 (by kernel_rfl) ?_))
    refine Back.is ?_
    simp [eqV, eqA, eqC, *]
  · (conv => whnf)
    refine Back.is ?_
    simp [eqV, eqA, eqC, h]
end Go.Fw

namespace Go.Fw
open Go Go.Proofs

/-- Turned round so far. -/
def revS (l : List Int) (k i : Nat) : Int := if i < k ∨ l.length ≤ i + k then l.getD (l.length - 1 - i) 0 else l.getD i 0
def revF (l : List Int) (k : Nat) : List Int := (List.range l.length).map (revS l k)

end Go.Fw

namespace Go.Fw
open Go Go.Proofs

/-- The best way of all: its end, what it costs, its arcs. -/
def bestE (F : TF) : Int × Int := bestF (aheadS F).1 F.fin F.fin.length
def bestW (F : TF) : List Int := (wayB F.arcs (aheadS F).2 F.st.toNat (bestE F).1).reverse

end Go.Fw

namespace Go.Fw
open Go Go.Proofs

def oneT : TF := ⟨2, 0, [-1, 1], [⟨0, 1, 2, 1, 5⟩], 2, 1⟩

theorem one_fst : fstE oneT = 0 := by decide
end Go.Fw

/-
  Turned: labels swapped, or the one for the other; twice swapped it is as it was.
-/
namespace Go.Fw
open Go

def invA (a : Arc) : Arc := ⟨a.f, a.o, a.i, a.t, a.w⟩
def prjA (side : Int) (a : Arc) : Arc := if side = 1 then ⟨a.f, a.i, a.i, a.t, a.w⟩ else ⟨a.f, a.o, a.o, a.t, a.w⟩
/-- Turned as R's TurnedOf does. -/
def turnA (side : Int) (a : Arc) : Arc := if side = 0 then invA a else if side = 1 then ⟨a.f, a.i, a.i, a.t, a.w⟩ else if side = 2 then ⟨a.f, a.o, a.o, a.t, a.w⟩ else a

theorem turnA_w (side : Int) (a : Arc) : (turnA side a).w = a.w := by
  unfold turnA invA
  split
  · rfl
  · split
    · rfl
    · split <;> rfl

theorem turnA_ok {st : Int} (side : Int) {a : Arc} (h : ArcOk st a) : ArcOk st (turnA side a) := by
  unfold turnA invA
  split
  · exact ⟨h.f0, h.f1, h.t0, h.t1, h.o0, h.i0, h.w0, h.w1⟩
  · split
    · exact ⟨h.f0, h.f1, h.t0, h.t1, h.i0, h.i0, h.w0, h.w1⟩
    · split
      · exact ⟨h.f0, h.f1, h.t0, h.t1, h.o0, h.o0, h.w0, h.w1⟩
      · exact h

theorem invA_invA (a : Arc) : invA (invA a) = a := rfl
theorem turnA_zero : turnA 0 = invA := by funext a; unfold turnA; rw [if_pos rfl]
theorem turnA_prj {side : Int} (h : side = 1 ∨ side = 2) : turnA side = prjA side := by
  funext a
  unfold turnA prjA
  rcases h with rfl | rfl <;> rfl

theorem invA_key {a b : Arc} (h : Key (invA a) (invA b)) : Key a b := ⟨h.1, h.2.2.1, h.2.1, h.2.2.2⟩

theorem Srt.nodup {l : List Arc} (h : Srt l) : l.Nodup := by
  unfold Srt at h
  exact h.imp fun {a b} hab e => by rw [e, aheadB_irr] at hab; cases hab

theorem nodup_len {α : Type} [DecidableEq α] : ∀ (l m : List α), l.Nodup → (∀ a ∈ l, a ∈ m) → l.length ≤ m.length
  | [], m, _, _ => Nat.zero_le _
  | a :: l, m, hn, h => by
    rw [List.nodup_cons] at hn
    have ha := h a (by simp)
    have := nodup_len l (m.erase a) hn.2 (fun b hb => (List.mem_erase_of_ne (by rintro rfl; exact hn.1 hb)).2 (h b (List.mem_cons_of_mem _ hb)))
    rw [List.length_erase_of_mem ha] at this
    have : 0 < m.length := List.length_pos_of_mem ha
    simp only [List.length_cons]
    omega

theorem IsNorm.len {xs zs : List Arc} (h : IsNorm xs zs) : zs.length ≤ xs.length := nodup_len zs xs h.srt.nodup h.sub

theorem inv_back {arcs zs : List Arc} (hs : Srt arcs) (h : IsNorm (arcs.map invA) zs) : IsNorm (zs.map invA) arcs := by
  have hz : ∀ z ∈ zs, invA z ∈ arcs := by
    intro z hz
    obtain ⟨b, hb, rfl⟩ := List.mem_map.1 (h.sub z hz)
    exact hb
  refine ⟨hs, fun a ha => ?_, fun x hx => ?_⟩
  · obtain ⟨z, hzm, hk, _⟩ := h.cov (invA a) (List.mem_map.2 ⟨a, ha, rfl⟩)
    have e : invA z = a := hs.key (hz z hzm) ha (invA_key (by rw [invA_invA]; exact hk))
    exact List.mem_map.2 ⟨z, hzm, e⟩
  · obtain ⟨z, hzm, rfl⟩ := List.mem_map.1 hx
    exact ⟨_, hz z hzm, Key.refl _, Int.le_refl _⟩

theorem norm_fst {F : TF} (hF : FOk F) {f : Arc → Arc} (hf : ∀ a, ArcOk F.st a → ArcOk F.st (f a)) {zs : List Arc} (h : IsNorm (F.arcs.map f) zs) (cf ca : Nat) : fstE ⟨F.st, F.start, F.fin, zs, cf, ca⟩ = 0 := by
  refine fstE_iff.2 ⟨⟨hF.st, hF.start, hF.finl, hF.fin, ?_, fun a ha => ?_⟩, h.srt⟩
  · have := h.len
    rw [List.length_map] at this
    exact Nat.le_trans this hF.arcl
  · obtain ⟨b, hb, rfl⟩ := List.mem_map.1 (h.sub a ha)
    exact hf b (hF.arc b hb)
end Go.Fw

namespace Go.Fw
open Go Go.Proofs

theorem invert1_c (a : Arc) : Ct Try.prog 71 [arcV a] [] [] 0 (Is 0 (arcV (invA a))) := by
  refine ctW Try.tyOk 3 [] Try.func71 rfl (by simp [SV.lt, SA.lt, SC.lt, arcV, fV]) (by simp) (fr := [(0, arcV a)]) rfl ?_
  repeat' (first | exact rfl | ((conv => whnf); first | refine condP_dec (fun h => absurd h (by omega)) (fun h => ?_) | refine condP_dec (fun h => ?_) (fun h => absurd h (by omega)) | refine condP_dec (fun h => ?_) (fun h => ?_) | refine condP_ndec (fun h => absurd h (by omega)) (fun h => ?_) | refine condP_ndec (fun h => ?_) (fun h => absurd h (by omega)) | refine condP_ndec (fun h => ?_) (fun h => ?_) | refine condP_beq (fun h => absurd h (by omega)) (fun h => ?_) | refine condP_beq (fun h => ?_) (fun h => absurd h (by omega)) | refine condP_beq (fun h => ?_) (fun h => ?_) | refine condP_bne (fun h => absurd h (by omega)) (fun h => ?_) | refine condP_bne (fun h => ?_) (fun h => absurd h (by omega)) | refine condP_bne (fun h => ?_) (fun h => ?_) | refine condP_mk (fun h => ?_) (fun h => ?_) | refine Ob.mk (by (first | omega | (simp only [InI, nmin, List.length_append, List.length_replicate, List.length_cons, List.length_nil, List.length_map, List.length_set, List.length_take, List.length_drop, List.length_reverse, List.length_range, Nat.zero_add, Nat.add_zero, Int.toNat_natCast, EK.sz]; omega) | (simp only [InI, nmin, List.length_append, List.length_replicate, List.length_cons, List.length_nil, List.length_map, List.length_set, List.length_take, List.length_drop, List.length_reverse, List.length_range, Nat.zero_add, Nat.add_zero, Int.toNat_natCast, EK.sz] at *; omega))) ?_ | refine Ob.mk ?_ ?_ | refine Both.mk ?_ ?_ | refine draw_of Try.mixed Try.tyOk 60 (by kernel_rfl) ?_))
  (conv => whnf)
  refine Back.is ?_
  simp [eqV, eqA, eqC, eqCs, eqAs, arcV, invA]

theorem project1_c (a : Arc) (side : Int) : Ct Try.prog 72 [arcV a, .c (.ptr 0 0)] [] [(0, .box 3 [.i side])] 1 (fun v s => v = arcV (prjA side a) ∧ s = ⟨[], [(0, .box 3 [.i side])], 1⟩) := by
  refine ctW Try.tyOk 4 [] Try.func72 rfl (by simp [SV.lt, SA.lt, SC.lt, arcV, fV]) (by simp) (fr := [(0, arcV a), (1, .c (.ptr 0 0))]) rfl ?_
  repeat' (first | exact rfl | ((conv => whnf); first | refine condP_dec (fun h => absurd h (by omega)) (fun h => ?_) | refine condP_dec (fun h => ?_) (fun h => absurd h (by omega)) | refine condP_dec (fun h => ?_) (fun h => ?_) | refine condP_ndec (fun h => absurd h (by omega)) (fun h => ?_) | refine condP_ndec (fun h => ?_) (fun h => absurd h (by omega)) | refine condP_ndec (fun h => ?_) (fun h => ?_) | refine condP_beq (fun h => absurd h (by omega)) (fun h => ?_) | refine condP_beq (fun h => ?_) (fun h => absurd h (by omega)) | refine condP_beq (fun h => ?_) (fun h => ?_) | refine condP_bne (fun h => absurd h (by omega)) (fun h => ?_) | refine condP_bne (fun h => ?_) (fun h => absurd h (by omega)) | refine condP_bne (fun h => ?_) (fun h => ?_) | refine condP_mk (fun h => ?_) (fun h => ?_) | refine Ob.mk (by (first | omega | (simp only [InI, nmin, List.length_append, List.length_replicate, List.length_cons, List.length_nil, List.length_map, List.length_set, List.length_take, List.length_drop, List.length_reverse, List.length_range, Nat.zero_add, Nat.add_zero, Int.toNat_natCast, EK.sz]; omega) | (simp only [InI, nmin, List.length_append, List.length_replicate, List.length_cons, List.length_nil, List.length_map, List.length_set, List.length_take, List.length_drop, List.length_reverse, List.length_range, Nat.zero_add, Nat.add_zero, Int.toNat_natCast, EK.sz] at *; omega))) ?_ | refine Ob.mk ?_ ?_ | refine Both.mk ?_ ?_ | refine draw_of Try.mixed Try.tyOk 60 (by kernel_rfl) ?_))
  · (conv => whnf)
    refine ⟨[], [(0, .box 3 [.i side])], 1, arcV (prjA side a), ⟨by rfl, trivial, by simp [eqFr, eqHp, eqV, eqA, eqC, eqO, eqCs, eqAs, look_cons, look, rn, EK.cast, EK.sz, eqCaps]⟩, ?_, rfl, rfl⟩
    simp [eqV, eqA, eqC, eqCs, eqAs, arcV, prjA, h]
  · (conv => whnf)
    refine ⟨[], [(0, .box 3 [.i side])], 1, arcV (prjA side a), ⟨by rfl, trivial, by simp [eqFr, eqHp, eqV, eqA, eqC, eqO, eqCs, eqAs, look_cons, look, rn, EK.cast, EK.sz, eqCaps]⟩, ?_, rfl, rfl⟩
    simp [eqV, eqA, eqC, eqCs, eqAs, arcV, prjA, h]

/-- What is mapped and sorted. -/
def MapPost (F : TF) (f : Arc → Arc) (hp : List (Nat × SO)) (n : Nat) (v : SV) (s : S) : Prop := ∃ zs sp sq, v = .a (.agg [.i F.st, .i F.start, .sl n 1 0 F.fin.length (F.fin.length + sp), .sl (n + 1) 5 0 zs.length (zs.length + sq)]) ∧ s = ⟨[], hp ++ [(n, .arr true 3 .int F.fin sp), (n + 1, .arr true 47 .arc zs sq)], n + 2⟩ ∧ IsNorm (F.arcs.map f) zs

set_option maxHeartbeats 8000000 in
set_option maxRecDepth 20000 in
theorem mappedI_c (F : TF) (hF : FOk F) : Ct Try.prog 70 [fV F, .c (.fn 71 [])] [] (hpF F) 2 (MapPost F invA [] 2) := by
  have hfl := hF.finl
  have hal := hF.arcl
  have hst := hF.st
  refine ctW Try.tyOk 8 [17, 18, 19] Try.func70 rfl (by simp [SV.lt, SA.lt, SC.lt, arcV, fV]) (by simp) (fr := [(0, fV F), (1, .c (.fn 71 []))]) rfl ?_
  repeat' (first | exact rfl | ((conv => whnf); first | refine condP_dec (fun h => absurd h (by omega)) (fun h => ?_) | refine condP_dec (fun h => ?_) (fun h => absurd h (by omega)) | refine condP_dec (fun h => ?_) (fun h => ?_) | refine condP_ndec (fun h => absurd h (by omega)) (fun h => ?_) | refine condP_ndec (fun h => ?_) (fun h => absurd h (by omega)) | refine condP_ndec (fun h => ?_) (fun h => ?_) | refine condP_beq (fun h => absurd h (by omega)) (fun h => ?_) | refine condP_beq (fun h => ?_) (fun h => absurd h (by omega)) | refine condP_beq (fun h => ?_) (fun h => ?_) | refine condP_bne (fun h => absurd h (by omega)) (fun h => ?_) | refine condP_bne (fun h => ?_) (fun h => absurd h (by omega)) | refine condP_bne (fun h => ?_) (fun h => ?_) | refine condP_mk (fun h => ?_) (fun h => ?_) | refine Ob.mk (by (first | omega | (simp only [InI, nmin, List.length_append, List.length_replicate, List.length_cons, List.length_nil, List.length_map, List.length_set, List.length_take, List.length_drop, List.length_reverse, List.length_range, Nat.zero_add, Nat.add_zero, Int.toNat_natCast, EK.sz]; omega) | (simp only [InI, nmin, List.length_append, List.length_replicate, List.length_cons, List.length_nil, List.length_map, List.length_set, List.length_take, List.length_drop, List.length_reverse, List.length_range, Nat.zero_add, Nat.add_zero, Int.toNat_natCast, EK.sz] at *; omega))) ?_ | refine Ob.mk ?_ ?_ | refine Both.mk ?_ ?_))
  (conv => whnf)
  refine drawCut (fun sp : Nat => ⟨[(1, .c (.fn 71 [])), (2, .c (.ptr 2 0)), (4, .c (.ptr 3 0)), (5, .c (.ptr 5 0))],
    [(0, .arr false 3 .int F.fin 0), (1, .arr false 47 .arc F.arcs 0), (2, .box 25 (fCells F)), (3, .box 25 [.i 0, .i 0, .v (.slice none 0 0), .v (.slice none 0 0)]), (4, .arr true 3 .int F.fin sp), (5, .box 25 [.i F.st, .i F.start, .sl 4 1 0 F.fin.length (F.fin.length + sp), .v (.slice none 0 0)])], 6⟩) (fun _ => True) ?_ ?_
  · repeat' (first | exact rfl | ((conv => whnf); first | refine condP_dec (fun h => absurd h (by omega)) (fun h => ?_) | refine condP_dec (fun h => ?_) (fun h => absurd h (by omega)) | refine condP_dec (fun h => ?_) (fun h => ?_) | refine condP_ndec (fun h => absurd h (by omega)) (fun h => ?_) | refine condP_ndec (fun h => ?_) (fun h => absurd h (by omega)) | refine condP_ndec (fun h => ?_) (fun h => ?_) | refine condP_beq (fun h => absurd h (by omega)) (fun h => ?_) | refine condP_beq (fun h => ?_) (fun h => absurd h (by omega)) | refine condP_beq (fun h => ?_) (fun h => ?_) | refine condP_bne (fun h => absurd h (by omega)) (fun h => ?_) | refine condP_bne (fun h => ?_) (fun h => absurd h (by omega)) | refine condP_bne (fun h => ?_) (fun h => ?_) | refine condP_mk (fun h => ?_) (fun h => ?_) | refine Ob.mk (by (first | omega | (simp only [InI, nmin, List.length_append, List.length_replicate, List.length_cons, List.length_nil, List.length_map, List.length_set, List.length_take, List.length_drop, List.length_reverse, List.length_range, Nat.zero_add, Nat.add_zero, Int.toNat_natCast, EK.sz]; omega) | (simp only [InI, nmin, List.length_append, List.length_replicate, List.length_cons, List.length_nil, List.length_map, List.length_set, List.length_take, List.length_drop, List.length_reverse, List.length_range, Nat.zero_add, Nat.add_zero, Int.toNat_natCast, EK.sz] at *; omega))) ?_ | refine Ob.mk ?_ ?_ | refine Both.mk ?_ ?_ | refine draw_of Try.mixed Try.tyOk 60 (by kernel_rfl) ?_))
    all_goals
      (conv => whnf)
      refine callF (clone_c F.fin F.capF (by omega)) [0] Try.call104 rfl (by simp [eqLs, eqL, eqO, eqC, eqCs, rn, renOf, look_cons, look, EK.cast]) (by simp [appN, ptrs, eqVL, eqV, eqA, eqC, eqCs, eqAs, eqCaps, EK.sz, rn, renOf, look_cons, look, arcV, fV]) (by simp [appN, ptrs, SV.lt, SA.lt, SC.lt, arcV, fV, lenN]) ?_
      rintro _ _ ⟨sp, rfl, rfl⟩
      repeat' (first | exact rfl | ((conv => whnf); first | refine condP_dec (fun h => absurd h (by omega)) (fun h => ?_) | refine condP_dec (fun h => ?_) (fun h => absurd h (by omega)) | refine condP_dec (fun h => ?_) (fun h => ?_) | refine condP_ndec (fun h => absurd h (by omega)) (fun h => ?_) | refine condP_ndec (fun h => ?_) (fun h => absurd h (by omega)) | refine condP_ndec (fun h => ?_) (fun h => ?_) | refine condP_beq (fun h => absurd h (by omega)) (fun h => ?_) | refine condP_beq (fun h => ?_) (fun h => absurd h (by omega)) | refine condP_beq (fun h => ?_) (fun h => ?_) | refine condP_bne (fun h => absurd h (by omega)) (fun h => ?_) | refine condP_bne (fun h => ?_) (fun h => absurd h (by omega)) | refine condP_bne (fun h => ?_) (fun h => ?_) | refine condP_mk (fun h => ?_) (fun h => ?_) | refine Ob.mk (by (first | omega | (simp only [InI, nmin, List.length_append, List.length_replicate, List.length_cons, List.length_nil, List.length_map, List.length_set, List.length_take, List.length_drop, List.length_reverse, List.length_range, Nat.zero_add, Nat.add_zero, Int.toNat_natCast, EK.sz]; omega) | (simp only [InI, nmin, List.length_append, List.length_replicate, List.length_cons, List.length_nil, List.length_map, List.length_set, List.length_take, List.length_drop, List.length_reverse, List.length_range, Nat.zero_add, Nat.add_zero, Int.toNat_natCast, EK.sz] at *; omega))) ?_ | refine Ob.mk ?_ ?_ | refine Both.mk ?_ ?_ | refine draw_of Try.mixed Try.tyOk 60 (by kernel_rfl) ?_))
      (conv => whnf)
    · refine ⟨sp, [], ⟨by rfl, ?_, ?_⟩, trivial⟩
      · simp [eqFr, eqHp, eqV, eqA, eqC, eqO, eqCs, eqAs, look_cons, look, rn, EK.cast, EK.sz, eqCaps]
      · simp [eqFr, eqHp, eqV, eqA, eqC, eqO, eqCs, eqAs, look_cons, look, rn, EK.cast, EK.sz, eqCaps, fCells]
    · refine ⟨sp, [(4, some 5), (5, some 4)], ⟨by rfl, ?_, ?_⟩, trivial⟩
      · simp [eqFr, eqHp, eqV, eqA, eqC, eqO, eqCs, eqAs, look_cons, look, rn, EK.cast, EK.sz, eqCaps]
      · simp [eqFr, eqHp, eqV, eqA, eqC, eqO, eqCs, eqAs, look_cons, look, rn, EK.cast, EK.sz, eqCaps, fCells]
  · intro sp _
    repeat' (first | exact rfl | ((conv => whnf); first | refine condP_dec (fun h => absurd h (by omega)) (fun h => ?_) | refine condP_dec (fun h => ?_) (fun h => absurd h (by omega)) | refine condP_dec (fun h => ?_) (fun h => ?_) | refine condP_ndec (fun h => absurd h (by omega)) (fun h => ?_) | refine condP_ndec (fun h => ?_) (fun h => absurd h (by omega)) | refine condP_ndec (fun h => ?_) (fun h => ?_) | refine condP_beq (fun h => absurd h (by omega)) (fun h => ?_) | refine condP_beq (fun h => ?_) (fun h => absurd h (by omega)) | refine condP_beq (fun h => ?_) (fun h => ?_) | refine condP_bne (fun h => absurd h (by omega)) (fun h => ?_) | refine condP_bne (fun h => ?_) (fun h => absurd h (by omega)) | refine condP_bne (fun h => ?_) (fun h => ?_) | refine condP_mk (fun h => ?_) (fun h => ?_) | refine Ob.mk (by (first | omega | (simp only [InI, nmin, List.length_append, List.length_replicate, List.length_cons, List.length_nil, List.length_map, List.length_set, List.length_take, List.length_drop, List.length_reverse, List.length_range, Nat.zero_add, Nat.add_zero, Int.toNat_natCast, EK.sz]; omega) | (simp only [InI, nmin, List.length_append, List.length_replicate, List.length_cons, List.length_nil, List.length_map, List.length_set, List.length_take, List.length_drop, List.length_reverse, List.length_range, Nat.zero_add, Nat.add_zero, Int.toNat_natCast, EK.sz] at *; omega))) ?_ | refine Ob.mk ?_ ?_ | refine Both.mk ?_ ?_ | refine draw_of Try.mixed Try.tyOk 60 (by kernel_rfl) ?_))
    (conv => whnf)
    refine loopI (fun x : Nat × Nat => ⟨[(1, .c (.fn 71 [])), (2, .c (.ptr 2 0)), (4, .c (.ptr 3 0)), (5, .c (.ptr 5 0)), (17, .c (.sl 1 5 0 F.arcs.length F.capA)), (18, .i F.arcs.length), (19, .i x.1)],
      [(0, .arr false 3 .int F.fin 0), (1, .arr false 47 .arc F.arcs 0), (2, .box 25 (fCells F)), (3, .box 25 [.i 0, .i 0, .v (.slice none 0 0), .v (.slice none 0 0)]), (4, .arr true 3 .int F.fin sp), (5, .box 25 [.i F.st, .i F.start, .sl 4 1 0 F.fin.length (F.fin.length + sp), .sl 6 5 0 ((F.arcs.take x.1).map invA).length (((F.arcs.take x.1).map invA).length + x.2)]), (6, .arr true 47 .arc ((F.arcs.take x.1).map invA) x.2)], 7⟩)
      (fun x => x.1 ≤ F.arcs.length) (fun x => F.arcs.length - x.1) (0, 0) [(6, none)] ⟨by rfl, ?_, ?_⟩ (Nat.zero_le _) ?_
    · simp [eqFr, eqHp, eqV, eqA, eqC, eqO, eqCs, eqAs, look_cons, look, rn, EK.cast, EK.sz, eqCaps]
    · simp [eqFr, eqHp, eqV, eqA, eqC, eqO, eqCs, eqAs, look_cons, look, rn, EK.cast, EK.sz, eqCaps, fCells, nilO]
    · rintro ⟨k, sq⟩ hk
      simp only at hk ⊢
      have hln : ((F.arcs.take k).map invA).length = k := by rw [List.length_map, List.length_take]; omega
      have hsn : k < F.arcs.length → (F.arcs.take (k + 1)).map invA = (F.arcs.take k).map invA ++ [invA (F.arcs.getD k aD)] := fun h => by
        rw [take_succ_getD F.arcs k aD h, List.map_append]; rfl
      generalize hpp : (F.arcs.take k).map invA = pl at hsn hln ⊢
      have e0 : 0 + (k : Int).toNat = k := by omega
      repeat' (first | exact rfl | ((conv => whnf); first | refine condP_dec (fun h => absurd h (by omega)) (fun h => ?_) | refine condP_dec (fun h => ?_) (fun h => absurd h (by omega)) | refine condP_dec (fun h => ?_) (fun h => ?_) | refine condP_ndec (fun h => absurd h (by omega)) (fun h => ?_) | refine condP_ndec (fun h => ?_) (fun h => absurd h (by omega)) | refine condP_ndec (fun h => ?_) (fun h => ?_) | refine condP_beq (fun h => absurd h (by omega)) (fun h => ?_) | refine condP_beq (fun h => ?_) (fun h => absurd h (by omega)) | refine condP_beq (fun h => ?_) (fun h => ?_) | refine condP_bne (fun h => absurd h (by omega)) (fun h => ?_) | refine condP_bne (fun h => ?_) (fun h => absurd h (by omega)) | refine condP_bne (fun h => ?_) (fun h => ?_) | refine condP_mk (fun h => ?_) (fun h => ?_) | refine Ob.mk (by (first | omega | (simp only [InI, nmin, List.length_append, List.length_replicate, List.length_cons, List.length_nil, List.length_map, List.length_set, List.length_take, List.length_drop, List.length_reverse, List.length_range, Nat.zero_add, Nat.add_zero, Int.toNat_natCast, EK.sz]; omega) | (simp only [InI, nmin, List.length_append, List.length_replicate, List.length_cons, List.length_nil, List.length_map, List.length_set, List.length_take, List.length_drop, List.length_reverse, List.length_range, Nat.zero_add, Nat.add_zero, Int.toNat_natCast, EK.sz] at *; omega))) ?_ | refine Ob.mk ?_ ?_ | refine Both.mk ?_ ?_ | refine draw_of Try.mixed Try.tyOk 60 (by kernel_rfl) ?_))
      · (conv => whnf)
        refine callF (invert1_c (F.arcs.getD (0 + (k : Int).toNat) EK.arc.dflt)) [] Try.call71 rfl (by simp [eqLs, eqL, eqO, eqC, eqCs, rn, renOf, look_cons, look, EK.cast]) (by simp [appN, ptrs, eqVL, eqV, eqA, eqC, eqCs, eqAs, eqCaps, EK.sz, rn, renOf, look_cons, look, arcV, fV]) (by simp [appN, ptrs, SV.lt, SA.lt, SC.lt, arcV, fV, lenN]) ?_
        rintro _ _ ⟨rfl, rfl⟩
        repeat' (first | exact rfl | ((conv => whnf); first | refine condP_dec (fun h => absurd h (by omega)) (fun h => ?_) | refine condP_dec (fun h => ?_) (fun h => absurd h (by omega)) | refine condP_dec (fun h => ?_) (fun h => ?_) | refine condP_ndec (fun h => absurd h (by omega)) (fun h => ?_) | refine condP_ndec (fun h => ?_) (fun h => absurd h (by omega)) | refine condP_ndec (fun h => ?_) (fun h => ?_) | refine condP_beq (fun h => absurd h (by omega)) (fun h => ?_) | refine condP_beq (fun h => ?_) (fun h => absurd h (by omega)) | refine condP_beq (fun h => ?_) (fun h => ?_) | refine condP_bne (fun h => absurd h (by omega)) (fun h => ?_) | refine condP_bne (fun h => ?_) (fun h => absurd h (by omega)) | refine condP_bne (fun h => ?_) (fun h => ?_) | refine condP_mk (fun h => ?_) (fun h => ?_) | refine Ob.mk (by (first | omega | (simp only [InI, nmin, List.length_append, List.length_replicate, List.length_cons, List.length_nil, List.length_map, List.length_set, List.length_take, List.length_drop, List.length_reverse, List.length_range, Nat.zero_add, Nat.add_zero, Int.toNat_natCast, EK.sz]; omega) | (simp only [InI, nmin, List.length_append, List.length_replicate, List.length_cons, List.length_nil, List.length_map, List.length_set, List.length_take, List.length_drop, List.length_reverse, List.length_range, Nat.zero_add, Nat.add_zero, Int.toNat_natCast, EK.sz] at *; omega))) ?_ | refine Ob.mk ?_ ?_ | refine Both.mk ?_ ?_ | refine draw_of Try.mixed Try.tyOk 60 (by kernel_rfl) ?_ | intro _))
        (conv => whnf)
        rename_i q
        replace hsn := hsn (by omega)
        rw [← e0] at hsn
        refine ⟨(k + 1, q), [(6, some 9)], ⟨by rfl, ?_, ?_⟩, by simp only; omega, by simp only; omega⟩
        · simp [eqFr, eqHp, eqV, eqA, eqC, eqO, eqCs, eqAs, look_cons, look, rn, EK.cast, EK.sz, eqCaps]
        · rw [e0] at hsn
          simp [eqFr, eqHp, eqV, eqA, eqC, eqO, eqCs, eqAs, look_cons, look, rn, EK.cast, EK.sz, eqCaps, fCells, hsn, EK.dflt]
          exact (app_one pl _ _ rfl).symm
      · have e : F.arcs.take k = F.arcs := List.take_of_length_le (by omega)
        rw [e] at hpp
        subst hpp
        clear hsn
        repeat' (first | exact rfl | ((conv => whnf); first | refine condP_dec (fun h => absurd h (by omega)) (fun h => ?_) | refine condP_dec (fun h => ?_) (fun h => absurd h (by omega)) | refine condP_dec (fun h => ?_) (fun h => ?_) | refine condP_ndec (fun h => absurd h (by omega)) (fun h => ?_) | refine condP_ndec (fun h => ?_) (fun h => absurd h (by omega)) | refine condP_ndec (fun h => ?_) (fun h => ?_) | refine condP_beq (fun h => absurd h (by omega)) (fun h => ?_) | refine condP_beq (fun h => ?_) (fun h => absurd h (by omega)) | refine condP_beq (fun h => ?_) (fun h => ?_) | refine condP_bne (fun h => absurd h (by omega)) (fun h => ?_) | refine condP_bne (fun h => ?_) (fun h => absurd h (by omega)) | refine condP_bne (fun h => ?_) (fun h => ?_) | refine condP_mk (fun h => ?_) (fun h => ?_) | refine Ob.mk (by (first | omega | (simp only [InI, nmin, List.length_append, List.length_replicate, List.length_cons, List.length_nil, List.length_map, List.length_set, List.length_take, List.length_drop, List.length_reverse, List.length_range, Nat.zero_add, Nat.add_zero, Int.toNat_natCast, EK.sz]; omega) | (simp only [InI, nmin, List.length_append, List.length_replicate, List.length_cons, List.length_nil, List.length_map, List.length_set, List.length_take, List.length_drop, List.length_reverse, List.length_range, Nat.zero_add, Nat.add_zero, Int.toNat_natCast, EK.sz] at *; omega))) ?_ | refine Ob.mk ?_ ?_ | refine Both.mk ?_ ?_ | refine draw_of Try.mixed Try.tyOk 60 (by kernel_rfl) ?_))
        (conv => whnf)
        refine callF (sorted_c (F.arcs.map invA) ((F.arcs.map invA).length + sq) sq (by omega) (by omega)) [6] Try.call90 rfl (by simp [eqLs, eqL, eqO, eqC, eqCs, rn, renOf, look_cons, look, EK.cast]) (by simp [appN, ptrs, eqVL, eqV, eqA, eqC, eqCs, eqAs, eqCaps, EK.sz, rn, renOf, look_cons, look, arcV, fV]) (by simp [appN, ptrs, SV.lt, SA.lt, SC.lt, arcV, fV, lenN]) ?_
        rintro _ _ ⟨zs, sq', rfl, rfl, hzl, hso⟩
        repeat' (first | exact rfl | ((conv => whnf); first | refine condP_dec (fun h => absurd h (by omega)) (fun h => ?_) | refine condP_dec (fun h => ?_) (fun h => absurd h (by omega)) | refine condP_dec (fun h => ?_) (fun h => ?_) | refine condP_ndec (fun h => absurd h (by omega)) (fun h => ?_) | refine condP_ndec (fun h => ?_) (fun h => absurd h (by omega)) | refine condP_ndec (fun h => ?_) (fun h => ?_) | refine condP_beq (fun h => absurd h (by omega)) (fun h => ?_) | refine condP_beq (fun h => ?_) (fun h => absurd h (by omega)) | refine condP_beq (fun h => ?_) (fun h => ?_) | refine condP_bne (fun h => absurd h (by omega)) (fun h => ?_) | refine condP_bne (fun h => ?_) (fun h => absurd h (by omega)) | refine condP_bne (fun h => ?_) (fun h => ?_) | refine condP_mk (fun h => ?_) (fun h => ?_) | refine Ob.mk (by (first | omega | (simp only [InI, nmin, List.length_append, List.length_replicate, List.length_cons, List.length_nil, List.length_map, List.length_set, List.length_take, List.length_drop, List.length_reverse, List.length_range, Nat.zero_add, Nat.add_zero, Int.toNat_natCast, EK.sz]; omega) | (simp only [InI, nmin, List.length_append, List.length_replicate, List.length_cons, List.length_nil, List.length_map, List.length_set, List.length_take, List.length_drop, List.length_reverse, List.length_range, Nat.zero_add, Nat.add_zero, Int.toNat_natCast, EK.sz] at *; omega))) ?_ | refine Ob.mk ?_ ?_ | refine Both.mk ?_ ?_ | refine draw_of Try.mixed Try.tyOk 60 (by kernel_rfl) ?_))
        (conv => whnf)
        rw [hzl]
        exact ⟨[(2, some 4), (3, some 6)], [(2, .arr true 3 .int F.fin sp), (3, .arr true 47 .arc zs sq')], 4, .a (.agg [.i F.st, .i F.start, .sl 2 1 0 F.fin.length (F.fin.length + sp), .sl 3 5 0 zs.length (zs.length + sq')]), ⟨by rfl, trivial, by simp [eqFr, eqHp, eqV, eqA, eqC, eqO, eqCs, eqAs, look_cons, look, rn, EK.cast, EK.sz, eqCaps]⟩, by simp [eqV, eqA, eqAs, eqC, eqCs, rn, look, look_cons, EK.sz], zs, sp, sq', rfl, rfl, hso.norm⟩
set_option maxHeartbeats 8000000 in
set_option maxRecDepth 20000 in
theorem mappedP_c (F : TF) (hF : FOk F) (side : Int) : Ct Try.prog 70 [fV F, .c (.fn 72 [(2, 0)])] [] ((2, .box 3 [.i side]) :: hpF F) 3 (MapPost F (prjA side) [(2, .box 3 [.i side])] 3) := by
  have hfl := hF.finl
  have hal := hF.arcl
  have hst := hF.st
  refine ctW Try.tyOk 8 [17, 18, 19] Try.func70 rfl (by simp [SV.lt, SA.lt, SC.lt, arcV, fV]) (by simp) (fr := [(0, fV F), (1, .c (.fn 72 [(2, 0)]))]) rfl ?_
  repeat' (first | exact rfl | ((conv => whnf); first | refine condP_dec (fun h => absurd h (by omega)) (fun h => ?_) | refine condP_dec (fun h => ?_) (fun h => absurd h (by omega)) | refine condP_dec (fun h => ?_) (fun h => ?_) | refine condP_ndec (fun h => absurd h (by omega)) (fun h => ?_) | refine condP_ndec (fun h => ?_) (fun h => absurd h (by omega)) | refine condP_ndec (fun h => ?_) (fun h => ?_) | refine condP_beq (fun h => absurd h (by omega)) (fun h => ?_) | refine condP_beq (fun h => ?_) (fun h => absurd h (by omega)) | refine condP_beq (fun h => ?_) (fun h => ?_) | refine condP_bne (fun h => absurd h (by omega)) (fun h => ?_) | refine condP_bne (fun h => ?_) (fun h => absurd h (by omega)) | refine condP_bne (fun h => ?_) (fun h => ?_) | refine condP_mk (fun h => ?_) (fun h => ?_) | refine Ob.mk (by (first | omega | (simp only [InI, nmin, List.length_append, List.length_replicate, List.length_cons, List.length_nil, List.length_map, List.length_set, List.length_take, List.length_drop, List.length_reverse, List.length_range, Nat.zero_add, Nat.add_zero, Int.toNat_natCast, EK.sz]; omega) | (simp only [InI, nmin, List.length_append, List.length_replicate, List.length_cons, List.length_nil, List.length_map, List.length_set, List.length_take, List.length_drop, List.length_reverse, List.length_range, Nat.zero_add, Nat.add_zero, Int.toNat_natCast, EK.sz] at *; omega))) ?_ | refine Ob.mk ?_ ?_ | refine Both.mk ?_ ?_))
  (conv => whnf)
  refine drawCut (fun sp : Nat => ⟨[(1, .c (.fn 72 [(2, 0)])), (2, .c (.ptr 3 0)), (4, .c (.ptr 4 0)), (5, .c (.ptr 6 0))],
    [(0, .arr false 3 .int F.fin 0), (1, .arr false 47 .arc F.arcs 0), (2, .box 3 [.i side]), (3, .box 25 (fCells F)), (4, .box 25 [.i 0, .i 0, .v (.slice none 0 0), .v (.slice none 0 0)]), (5, .arr true 3 .int F.fin sp), (6, .box 25 [.i F.st, .i F.start, .sl 5 1 0 F.fin.length (F.fin.length + sp), .v (.slice none 0 0)])], 7⟩) (fun _ => True) ?_ ?_
  · repeat' (first | exact rfl | ((conv => whnf); first | refine condP_dec (fun h => absurd h (by omega)) (fun h => ?_) | refine condP_dec (fun h => ?_) (fun h => absurd h (by omega)) | refine condP_dec (fun h => ?_) (fun h => ?_) | refine condP_ndec (fun h => absurd h (by omega)) (fun h => ?_) | refine condP_ndec (fun h => ?_) (fun h => absurd h (by omega)) | refine condP_ndec (fun h => ?_) (fun h => ?_) | refine condP_beq (fun h => absurd h (by omega)) (fun h => ?_) | refine condP_beq (fun h => ?_) (fun h => absurd h (by omega)) | refine condP_beq (fun h => ?_) (fun h => ?_) | refine condP_bne (fun h => absurd h (by omega)) (fun h => ?_) | refine condP_bne (fun h => ?_) (fun h => absurd h (by omega)) | refine condP_bne (fun h => ?_) (fun h => ?_) | refine condP_mk (fun h => ?_) (fun h => ?_) | refine Ob.mk (by (first | omega | (simp only [InI, nmin, List.length_append, List.length_replicate, List.length_cons, List.length_nil, List.length_map, List.length_set, List.length_take, List.length_drop, List.length_reverse, List.length_range, Nat.zero_add, Nat.add_zero, Int.toNat_natCast, EK.sz]; omega) | (simp only [InI, nmin, List.length_append, List.length_replicate, List.length_cons, List.length_nil, List.length_map, List.length_set, List.length_take, List.length_drop, List.length_reverse, List.length_range, Nat.zero_add, Nat.add_zero, Int.toNat_natCast, EK.sz] at *; omega))) ?_ | refine Ob.mk ?_ ?_ | refine Both.mk ?_ ?_ | refine draw_of Try.mixed Try.tyOk 60 (by kernel_rfl) ?_))
    all_goals
      (conv => whnf)
      refine callF (clone_c F.fin F.capF (by omega)) [0] Try.call104 rfl (by simp [eqLs, eqL, eqO, eqC, eqCs, rn, renOf, look_cons, look, EK.cast]) (by simp [appN, ptrs, eqVL, eqV, eqA, eqC, eqCs, eqAs, eqCaps, EK.sz, rn, renOf, look_cons, look, arcV, fV]) (by simp [appN, ptrs, SV.lt, SA.lt, SC.lt, arcV, fV, lenN]) ?_
      rintro _ _ ⟨sp, rfl, rfl⟩
      repeat' (first | exact rfl | ((conv => whnf); first | refine condP_dec (fun h => absurd h (by omega)) (fun h => ?_) | refine condP_dec (fun h => ?_) (fun h => absurd h (by omega)) | refine condP_dec (fun h => ?_) (fun h => ?_) | refine condP_ndec (fun h => absurd h (by omega)) (fun h => ?_) | refine condP_ndec (fun h => ?_) (fun h => absurd h (by omega)) | refine condP_ndec (fun h => ?_) (fun h => ?_) | refine condP_beq (fun h => absurd h (by omega)) (fun h => ?_) | refine condP_beq (fun h => ?_) (fun h => absurd h (by omega)) | refine condP_beq (fun h => ?_) (fun h => ?_) | refine condP_bne (fun h => absurd h (by omega)) (fun h => ?_) | refine condP_bne (fun h => ?_) (fun h => absurd h (by omega)) | refine condP_bne (fun h => ?_) (fun h => ?_) | refine condP_mk (fun h => ?_) (fun h => ?_) | refine Ob.mk (by (first | omega | (simp only [InI, nmin, List.length_append, List.length_replicate, List.length_cons, List.length_nil, List.length_map, List.length_set, List.length_take, List.length_drop, List.length_reverse, List.length_range, Nat.zero_add, Nat.add_zero, Int.toNat_natCast, EK.sz]; omega) | (simp only [InI, nmin, List.length_append, List.length_replicate, List.length_cons, List.length_nil, List.length_map, List.length_set, List.length_take, List.length_drop, List.length_reverse, List.length_range, Nat.zero_add, Nat.add_zero, Int.toNat_natCast, EK.sz] at *; omega))) ?_ | refine Ob.mk ?_ ?_ | refine Both.mk ?_ ?_ | refine draw_of Try.mixed Try.tyOk 60 (by kernel_rfl) ?_))
      (conv => whnf)
    · refine ⟨sp, [], ⟨by rfl, ?_, ?_⟩, trivial⟩
      · simp [eqFr, eqHp, eqV, eqA, eqC, eqO, eqCs, eqAs, look_cons, look, rn, EK.cast, EK.sz, eqCaps]
      · simp [eqFr, eqHp, eqV, eqA, eqC, eqO, eqCs, eqAs, look_cons, look, rn, EK.cast, EK.sz, eqCaps, fCells]
    · refine ⟨sp, [(5, some 6), (6, some 5)], ⟨by rfl, ?_, ?_⟩, trivial⟩
      · simp [eqFr, eqHp, eqV, eqA, eqC, eqO, eqCs, eqAs, look_cons, look, rn, EK.cast, EK.sz, eqCaps]
      · simp [eqFr, eqHp, eqV, eqA, eqC, eqO, eqCs, eqAs, look_cons, look, rn, EK.cast, EK.sz, eqCaps, fCells]
  · intro sp _
    repeat' (first | exact rfl | ((conv => whnf); first | refine condP_dec (fun h => absurd h (by omega)) (fun h => ?_) | refine condP_dec (fun h => ?_) (fun h => absurd h (by omega)) | refine condP_dec (fun h => ?_) (fun h => ?_) | refine condP_ndec (fun h => absurd h (by omega)) (fun h => ?_) | refine condP_ndec (fun h => ?_) (fun h => absurd h (by omega)) | refine condP_ndec (fun h => ?_) (fun h => ?_) | refine condP_beq (fun h => absurd h (by omega)) (fun h => ?_) | refine condP_beq (fun h => ?_) (fun h => absurd h (by omega)) | refine condP_beq (fun h => ?_) (fun h => ?_) | refine condP_bne (fun h => absurd h (by omega)) (fun h => ?_) | refine condP_bne (fun h => ?_) (fun h => absurd h (by omega)) | refine condP_bne (fun h => ?_) (fun h => ?_) | refine condP_mk (fun h => ?_) (fun h => ?_) | refine Ob.mk (by (first | omega | (simp only [InI, nmin, List.length_append, List.length_replicate, List.length_cons, List.length_nil, List.length_map, List.length_set, List.length_take, List.length_drop, List.length_reverse, List.length_range, Nat.zero_add, Nat.add_zero, Int.toNat_natCast, EK.sz]; omega) | (simp only [InI, nmin, List.length_append, List.length_replicate, List.length_cons, List.length_nil, List.length_map, List.length_set, List.length_take, List.length_drop, List.length_reverse, List.length_range, Nat.zero_add, Nat.add_zero, Int.toNat_natCast, EK.sz] at *; omega))) ?_ | refine Ob.mk ?_ ?_ | refine Both.mk ?_ ?_ | refine draw_of Try.mixed Try.tyOk 60 (by kernel_rfl) ?_))
    (conv => whnf)
    refine loopI (fun x : Nat × Nat => ⟨[(1, .c (.fn 72 [(2, 0)])), (2, .c (.ptr 3 0)), (4, .c (.ptr 4 0)), (5, .c (.ptr 6 0)), (17, .c (.sl 1 5 0 F.arcs.length F.capA)), (18, .i F.arcs.length), (19, .i x.1)],
      [(0, .arr false 3 .int F.fin 0), (1, .arr false 47 .arc F.arcs 0), (2, .box 3 [.i side]), (3, .box 25 (fCells F)), (4, .box 25 [.i 0, .i 0, .v (.slice none 0 0), .v (.slice none 0 0)]), (5, .arr true 3 .int F.fin sp), (6, .box 25 [.i F.st, .i F.start, .sl 5 1 0 F.fin.length (F.fin.length + sp), .sl 7 5 0 ((F.arcs.take x.1).map (prjA side)).length (((F.arcs.take x.1).map (prjA side)).length + x.2)]), (7, .arr true 47 .arc ((F.arcs.take x.1).map (prjA side)) x.2)], 8⟩)
      (fun x => x.1 ≤ F.arcs.length) (fun x => F.arcs.length - x.1) (0, 0) [(7, none)] ⟨by rfl, ?_, ?_⟩ (Nat.zero_le _) ?_
    · simp [eqFr, eqHp, eqV, eqA, eqC, eqO, eqCs, eqAs, look_cons, look, rn, EK.cast, EK.sz, eqCaps]
    · simp [eqFr, eqHp, eqV, eqA, eqC, eqO, eqCs, eqAs, look_cons, look, rn, EK.cast, EK.sz, eqCaps, fCells, nilO]
    · rintro ⟨k, sq⟩ hk
      simp only at hk ⊢
      have hln : ((F.arcs.take k).map (prjA side)).length = k := by rw [List.length_map, List.length_take]; omega
      have hsn : k < F.arcs.length → (F.arcs.take (k + 1)).map (prjA side) = (F.arcs.take k).map (prjA side) ++ [(prjA side) (F.arcs.getD k aD)] := fun h => by
        rw [take_succ_getD F.arcs k aD h, List.map_append]; rfl
      generalize hpp : (F.arcs.take k).map (prjA side) = pl at hsn hln ⊢
      have e0 : 0 + (k : Int).toNat = k := by omega
      repeat' (first | exact rfl | ((conv => whnf); first | refine condP_dec (fun h => absurd h (by omega)) (fun h => ?_) | refine condP_dec (fun h => ?_) (fun h => absurd h (by omega)) | refine condP_dec (fun h => ?_) (fun h => ?_) | refine condP_ndec (fun h => absurd h (by omega)) (fun h => ?_) | refine condP_ndec (fun h => ?_) (fun h => absurd h (by omega)) | refine condP_ndec (fun h => ?_) (fun h => ?_) | refine condP_beq (fun h => absurd h (by omega)) (fun h => ?_) | refine condP_beq (fun h => ?_) (fun h => absurd h (by omega)) | refine condP_beq (fun h => ?_) (fun h => ?_) | refine condP_bne (fun h => absurd h (by omega)) (fun h => ?_) | refine condP_bne (fun h => ?_) (fun h => absurd h (by omega)) | refine condP_bne (fun h => ?_) (fun h => ?_) | refine condP_mk (fun h => ?_) (fun h => ?_) | refine Ob.mk (by (first | omega | (simp only [InI, nmin, List.length_append, List.length_replicate, List.length_cons, List.length_nil, List.length_map, List.length_set, List.length_take, List.length_drop, List.length_reverse, List.length_range, Nat.zero_add, Nat.add_zero, Int.toNat_natCast, EK.sz]; omega) | (simp only [InI, nmin, List.length_append, List.length_replicate, List.length_cons, List.length_nil, List.length_map, List.length_set, List.length_take, List.length_drop, List.length_reverse, List.length_range, Nat.zero_add, Nat.add_zero, Int.toNat_natCast, EK.sz] at *; omega))) ?_ | refine Ob.mk ?_ ?_ | refine Both.mk ?_ ?_ | refine draw_of Try.mixed Try.tyOk 60 (by kernel_rfl) ?_))
      · (conv => whnf)
        refine callF (project1_c (F.arcs.getD (0 + (k : Int).toNat) EK.arc.dflt) side) [2] Try.call72 rfl (by simp [eqLs, eqL, eqO, eqC, eqCs, rn, renOf, look_cons, look, EK.cast]) (by simp [appN, ptrs, eqVL, eqV, eqA, eqC, eqCs, eqAs, eqCaps, EK.sz, rn, renOf, look_cons, look, arcV, fV]) (by simp [appN, ptrs, SV.lt, SA.lt, SC.lt, arcV, fV, lenN]) ?_
        rintro _ _ ⟨rfl, rfl⟩
        repeat' (first | exact rfl | ((conv => whnf); first | refine condP_dec (fun h => absurd h (by omega)) (fun h => ?_) | refine condP_dec (fun h => ?_) (fun h => absurd h (by omega)) | refine condP_dec (fun h => ?_) (fun h => ?_) | refine condP_ndec (fun h => absurd h (by omega)) (fun h => ?_) | refine condP_ndec (fun h => ?_) (fun h => absurd h (by omega)) | refine condP_ndec (fun h => ?_) (fun h => ?_) | refine condP_beq (fun h => absurd h (by omega)) (fun h => ?_) | refine condP_beq (fun h => ?_) (fun h => absurd h (by omega)) | refine condP_beq (fun h => ?_) (fun h => ?_) | refine condP_bne (fun h => absurd h (by omega)) (fun h => ?_) | refine condP_bne (fun h => ?_) (fun h => absurd h (by omega)) | refine condP_bne (fun h => ?_) (fun h => ?_) | refine condP_mk (fun h => ?_) (fun h => ?_) | refine Ob.mk (by (first | omega | (simp only [InI, nmin, List.length_append, List.length_replicate, List.length_cons, List.length_nil, List.length_map, List.length_set, List.length_take, List.length_drop, List.length_reverse, List.length_range, Nat.zero_add, Nat.add_zero, Int.toNat_natCast, EK.sz]; omega) | (simp only [InI, nmin, List.length_append, List.length_replicate, List.length_cons, List.length_nil, List.length_map, List.length_set, List.length_take, List.length_drop, List.length_reverse, List.length_range, Nat.zero_add, Nat.add_zero, Int.toNat_natCast, EK.sz] at *; omega))) ?_ | refine Ob.mk ?_ ?_ | refine Both.mk ?_ ?_ | refine draw_of Try.mixed Try.tyOk 60 (by kernel_rfl) ?_ | intro _))
        (conv => whnf)
        rename_i q
        replace hsn := hsn (by omega)
        rw [← e0] at hsn
        refine ⟨(k + 1, q), [(7, some 10)], ⟨by rfl, ?_, ?_⟩, by simp only; omega, by simp only; omega⟩
        · simp [eqFr, eqHp, eqV, eqA, eqC, eqO, eqCs, eqAs, look_cons, look, rn, EK.cast, EK.sz, eqCaps]
        · rw [e0] at hsn
          simp [eqFr, eqHp, eqV, eqA, eqC, eqO, eqCs, eqAs, look_cons, look, rn, EK.cast, EK.sz, eqCaps, fCells, hsn, EK.dflt]
          exact (app_one pl _ _ rfl).symm
      · have e : F.arcs.take k = F.arcs := List.take_of_length_le (by omega)
        rw [e] at hpp
        subst hpp
        clear hsn
        repeat' (first | exact rfl | ((conv => whnf); first | refine condP_dec (fun h => absurd h (by omega)) (fun h => ?_) | refine condP_dec (fun h => ?_) (fun h => absurd h (by omega)) | refine condP_dec (fun h => ?_) (fun h => ?_) | refine condP_ndec (fun h => absurd h (by omega)) (fun h => ?_) | refine condP_ndec (fun h => ?_) (fun h => absurd h (by omega)) | refine condP_ndec (fun h => ?_) (fun h => ?_) | refine condP_beq (fun h => absurd h (by omega)) (fun h => ?_) | refine condP_beq (fun h => ?_) (fun h => absurd h (by omega)) | refine condP_beq (fun h => ?_) (fun h => ?_) | refine condP_bne (fun h => absurd h (by omega)) (fun h => ?_) | refine condP_bne (fun h => ?_) (fun h => absurd h (by omega)) | refine condP_bne (fun h => ?_) (fun h => ?_) | refine condP_mk (fun h => ?_) (fun h => ?_) | refine Ob.mk (by (first | omega | (simp only [InI, nmin, List.length_append, List.length_replicate, List.length_cons, List.length_nil, List.length_map, List.length_set, List.length_take, List.length_drop, List.length_reverse, List.length_range, Nat.zero_add, Nat.add_zero, Int.toNat_natCast, EK.sz]; omega) | (simp only [InI, nmin, List.length_append, List.length_replicate, List.length_cons, List.length_nil, List.length_map, List.length_set, List.length_take, List.length_drop, List.length_reverse, List.length_range, Nat.zero_add, Nat.add_zero, Int.toNat_natCast, EK.sz] at *; omega))) ?_ | refine Ob.mk ?_ ?_ | refine Both.mk ?_ ?_ | refine draw_of Try.mixed Try.tyOk 60 (by kernel_rfl) ?_))
        (conv => whnf)
        refine callF (sorted_c (F.arcs.map (prjA side)) ((F.arcs.map (prjA side)).length + sq) sq (by omega) (by omega)) [7] Try.call90 rfl (by simp [eqLs, eqL, eqO, eqC, eqCs, rn, renOf, look_cons, look, EK.cast]) (by simp [appN, ptrs, eqVL, eqV, eqA, eqC, eqCs, eqAs, eqCaps, EK.sz, rn, renOf, look_cons, look, arcV, fV]) (by simp [appN, ptrs, SV.lt, SA.lt, SC.lt, arcV, fV, lenN]) ?_
        rintro _ _ ⟨zs, sq', rfl, rfl, hzl, hso⟩
        repeat' (first | exact rfl | ((conv => whnf); first | refine condP_dec (fun h => absurd h (by omega)) (fun h => ?_) | refine condP_dec (fun h => ?_) (fun h => absurd h (by omega)) | refine condP_dec (fun h => ?_) (fun h => ?_) | refine condP_ndec (fun h => absurd h (by omega)) (fun h => ?_) | refine condP_ndec (fun h => ?_) (fun h => absurd h (by omega)) | refine condP_ndec (fun h => ?_) (fun h => ?_) | refine condP_beq (fun h => absurd h (by omega)) (fun h => ?_) | refine condP_beq (fun h => ?_) (fun h => absurd h (by omega)) | refine condP_beq (fun h => ?_) (fun h => ?_) | refine condP_bne (fun h => absurd h (by omega)) (fun h => ?_) | refine condP_bne (fun h => ?_) (fun h => absurd h (by omega)) | refine condP_bne (fun h => ?_) (fun h => ?_) | refine condP_mk (fun h => ?_) (fun h => ?_) | refine Ob.mk (by (first | omega | (simp only [InI, nmin, List.length_append, List.length_replicate, List.length_cons, List.length_nil, List.length_map, List.length_set, List.length_take, List.length_drop, List.length_reverse, List.length_range, Nat.zero_add, Nat.add_zero, Int.toNat_natCast, EK.sz]; omega) | (simp only [InI, nmin, List.length_append, List.length_replicate, List.length_cons, List.length_nil, List.length_map, List.length_set, List.length_take, List.length_drop, List.length_reverse, List.length_range, Nat.zero_add, Nat.add_zero, Int.toNat_natCast, EK.sz] at *; omega))) ?_ | refine Ob.mk ?_ ?_ | refine Both.mk ?_ ?_ | refine draw_of Try.mixed Try.tyOk 60 (by kernel_rfl) ?_))
        (conv => whnf)
        rw [hzl]
        exact ⟨[(3, some 5), (4, some 7)], [(2, .box 3 [.i side]), (3, .arr true 3 .int F.fin sp), (4, .arr true 47 .arc zs sq')], 5, .a (.agg [.i F.st, .i F.start, .sl 3 1 0 F.fin.length (F.fin.length + sp), .sl 4 5 0 zs.length (zs.length + sq')]), ⟨by rfl, trivial, by simp [eqFr, eqHp, eqV, eqA, eqC, eqO, eqCs, eqAs, look_cons, look, rn, EK.cast, EK.sz, eqCaps]⟩, by simp [eqV, eqA, eqAs, eqC, eqCs, rn, look, look_cons, EK.sz], zs, sp, sq', rfl, rfl, hso.norm⟩
end Go.Fw
