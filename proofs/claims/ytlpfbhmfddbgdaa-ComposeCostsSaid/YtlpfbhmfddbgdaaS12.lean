/- Walks of the functions: what each computes. -/
import Derived.Test.YtlpfbhmfddbgdaaS11
import Derived.Test.YtlpfbhmfddbgdaaS06
import Derived.Test.YtlpfbhmfddbgdaaS08

set_option linter.unusedSimpArgs false
set_option linter.unusedVariables false

namespace Go.Fw
open Go Go.Proofs

theorem SrtOn.kept {a b c e : Nat} {xs ys : List Arc} (h : SrtOn aD ltW a b xs) (hm : Mv aD c e xs ys) (hk : b ≤ c ∨ e ≤ a) : SrtOn aD ltW a b ys := h.cong fun k h1 h2 => hm.out k (by omega)

set_option maxHeartbeats 8000000 in
set_option maxRecDepth 20000 in
theorem symMerge_c : ∀ (N : Nat) (xs : List Arc) (cap sp a m b : Nat), b - a ≤ N → a < m → m < b → b ≤ xs.length → xs.length ≤ 1000000 → SrtOn aD ltW a m xs → SrtOn aD ltW m b xs →
    Ct Try.prog 134 [.c (.sl 0 5 0 xs.length cap), .i a, .i m, .i b, .c (.fn 115 [])] [] [(0, .arr true 47 .arc xs sp)] 1
      (fun v s => ∃ ys, v = .u ∧ s = ⟨[], [(0, .arr true 47 .arc ys sp)], 1⟩ ∧ Mv aD a b xs ys ∧ SrtOn aD ltW a b ys)
  | 0, xs, cap, sp, a, m, b, hN, ham, hmb, hb, hl, h1, h2 => by omega
  | N + 1, xs, cap, sp, a, m, b, hN, ham, hmb, hb, hl, h1, h2 => by
    by_cases hA : m = a + 1
    · exact symA_c xs cap sp a m b hA hmb hb hl h2
    by_cases hB : b = m + 1
    · exact symB_c xs cap sp a m b (by omega) hB hb hl h1
    have ih := symMerge_c N
    obtain ⟨mid, hmid⟩ : ∃ mid, mid = (a + b) / 2 := ⟨_, rfl⟩
    refine ctC Try.tyOk Try.func134 rfl (by simp [SV.lt, SA.lt, SC.lt, arcV, fV]) (by simp) (fr := [(0, .c (.sl 0 5 0 xs.length cap)), (1, .i a), (2, .i m), (3, .i b), (4, .c (.fn 115 []))]) rfl ?_
    refine SemC.cut Try.tyOk 25 [] (fun y : Nat × Nat => ⟨[(0, .c (.sl 0 5 0 xs.length cap)), (1, .i a), (2, .i m), (3, .i b), (4, .c (.fn 115 [])), (18, .i mid), (19, .i (mid + m : Nat)), (20, .i y.1), (21, .i y.2), (22, .i (mid + m - 1 : Nat))], [(0, .arr true 47 .arc xs sp)], 1⟩)
      (fun y => (mid < m ∧ y.1 = mid + m - b ∧ y.2 = mid) ∨ (m ≤ mid ∧ y.1 = a ∧ y.2 = m)) 7 _ _ ?_ ?_
    · repeat' (first | exact rfl | ((conv => whnf); first | ((first | refine qA (fun h => ?_) fun h => ?_ | refine qN (fun h => ?_) fun h => ?_ | refine qB (fun h => ?_) fun h => ?_ | refine qC (fun h => ?_) fun h => ?_) <;> try exact absurd h (by omega)) | refine qM (fun h => ?_) fun h => ?_ | refine oM (by (first | omega | (simp only [lenS, InI, nmin, EK.sz]; omega) | (simp only [lenS, InI, nmin, EK.sz] at *; omega))) ?_ | refine oM ?_ ?_ | refine bM ?_ ?_ | refine draw_of Try.mixed Try.tyOk 60 (by kernel_rfl) ?_))
      · (conv => whnf)
        refine ⟨(mid + m - b, mid), [], ⟨by rfl, ?_, ?_⟩, .inl ⟨by omega, rfl, rfl⟩⟩
        · simp [eqFr, eqHp, eqV, eqA, eqC, eqO, eqCs, eqAs, look_cons, look, rn, EK.cast, EK.sz, eqCaps]
          omega
        · simp [eqFr, eqHp, eqV, eqA, eqC, eqO, eqCs, eqAs, look_cons, look, rn, EK.cast, EK.sz, eqCaps]
      · (conv => whnf)
        refine ⟨(a, m), [], ⟨by rfl, ?_, ?_⟩, .inr ⟨by omega, rfl, rfl⟩⟩
        · simp [eqFr, eqHp, eqV, eqA, eqC, eqO, eqCs, eqAs, look_cons, look, rn, EK.cast, EK.sz, eqCaps]
          omega
        · simp [eqFr, eqHp, eqV, eqA, eqC, eqO, eqCs, eqAs, look_cons, look, rn, EK.cast, EK.sz, eqCaps]
    · rintro ⟨lo, hi⟩ hlh
      simp only at hlh ⊢
      refine SemC.cut Try.tyOk 25 [] (fun y : Nat × List Arc => ⟨[(0, .c (.sl 0 5 0 xs.length cap)), (1, .i a), (2, .i m), (3, .i b), (4, .c (.fn 115 [])), (18, .i mid), (20, .i y.1), (24, .i (mid + m - y.1 : Nat))], [(0, .arr true 47 .arc y.2 sp)], 1⟩)
        (fun y => a ≤ y.1 ∧ y.1 ≤ mid ∧ mid ≤ mid + m - y.1 ∧ mid + m - y.1 ≤ b ∧ Mv aD a b xs y.2 ∧ Cross aD ltW a mid b y.2 ∧ SrtOn aD ltW a y.1 y.2 ∧ SrtOn aD ltW y.1 mid y.2 ∧ SrtOn aD ltW mid (mid + m - y.1) y.2 ∧ SrtOn aD ltW (mid + m - y.1) b y.2) 3 _ _ ?_ ?_
      · repeat' (first | exact rfl | ((conv => whnf); first | ((first | refine qA (fun h => ?_) fun h => ?_ | refine qN (fun h => ?_) fun h => ?_ | refine qB (fun h => ?_) fun h => ?_ | refine qC (fun h => ?_) fun h => ?_) <;> try exact absurd h (by omega)) | refine qM (fun h => ?_) fun h => ?_ | refine oM (by (first | omega | (simp only [lenS, InI, nmin, EK.sz]; omega) | (simp only [lenS, InI, nmin, EK.sz] at *; omega))) ?_ | refine oM ?_ ?_ | refine bM ?_ ?_ | refine draw_of Try.mixed Try.tyOk 60 (by kernel_rfl) ?_))
        (conv => whnf)
        refine loopI (fun y : Nat × Nat => ⟨[(0, .c (.sl 0 5 0 xs.length cap)), (1, .i a), (2, .i m), (3, .i b), (4, .c (.fn 115 [])), (18, .i mid), (19, .i (mid + m : Nat)), (20, .i y.1), (21, .i y.2), (22, .i (mid + m - 1 : Nat))], [(0, .arr true 47 .arc xs sp)], 1⟩)
          (fun y => SymS aD ltW lo hi (mid + m - 1) y.1 y.2 xs) (fun y => y.2 - y.1) (lo, hi) [] ⟨by rfl, ?_, ?_⟩ ⟨Nat.le_refl _, by simp only; omega, Nat.le_refl _, .inl rfl, .inl rfl⟩ ?_
        · simp [eqFr, eqHp, eqV, eqA, eqC, eqO, eqCs, eqAs, look_cons, look, rn, EK.cast, EK.sz, eqCaps]
        · simp [eqFr, eqHp, eqV, eqA, eqC, eqO, eqCs, eqAs, look_cons, look, rn, EK.cast, EK.sz, eqCaps]
        · rintro ⟨s, r⟩ hs
          have hsl := hs.l
          have hsm := hs.m
          have hsh := hs.h
          simp only at hsl hsm hsh ⊢
          have e0 : 0 + (((s : Int) + r) / 2).toNat = (s + r) / 2 := by omega
          have e1 : 0 + (((mid + m - 1 : Nat) : Int) - ((s : Int) + r) / 2).toNat = mid + m - 1 - (s + r) / 2 := by omega
          repeat' (first | exact rfl | ((conv => whnf); first | ((first | refine qA (fun h => ?_) fun h => ?_ | refine qN (fun h => ?_) fun h => ?_ | refine qB (fun h => ?_) fun h => ?_ | refine qC (fun h => ?_) fun h => ?_) <;> try exact absurd h (by omega)) | refine qM (fun h => ?_) fun h => ?_ | refine oM (by (first | omega | (simp only [lenS, InI, nmin, EK.sz]; omega) | (simp only [lenS, InI, nmin, EK.sz] at *; omega))) ?_ | refine oM ?_ ?_ | refine bM ?_ ?_ | refine draw_of Try.mixed Try.tyOk 60 (by kernel_rfl) ?_))
          · (conv => whnf)
            have ecm : ltW (xs.getD (mid + m - 1 - (s + r) / 2) aD) (xs.getD ((s + r) / 2) aD) = decide (cmpW (xs.getD (0 + (((mid + m - 1 : Nat) : Int) - ((s : Int) + r) / 2).toNat) EK.arc.dflt) (xs.getD (0 + (((s : Int) + r) / 2).toNat) EK.arc.dflt) < 0) := by rw [e0, e1]; rfl
            refine callF (sorted1_c (xs.getD (0 + (((mid + m - 1 : Nat) : Int) - ((s : Int) + r) / 2).toNat) EK.arc.dflt) (xs.getD (0 + (((s : Int) + r) / 2).toNat) EK.arc.dflt)) [] Try.call115 rfl (by simp [eqLs, eqL, eqO, eqC, eqCs, rn, renOf, look_cons, look, EK.cast]) (by simp [appN, ptrs, eqVL, eqV, eqA, eqC, eqCs, eqAs, eqCaps, EK.sz, rn, renOf, look_cons, look, arcV, fV]) (by simp [appN, ptrs, SV.lt, SA.lt, SC.lt, arcV, fV, lenN]) ?_
            rintro _ _ ⟨rfl, rfl⟩
            repeat' (first | exact rfl | ((conv => whnf); first | ((first | refine qA (fun h => ?_) fun h => ?_ | refine qN (fun h => ?_) fun h => ?_ | refine qB (fun h => ?_) fun h => ?_ | refine qC (fun h => ?_) fun h => ?_) <;> try exact absurd h (by omega)) | refine qM (fun h => ?_) fun h => ?_ | refine oM (by (first | omega | (simp only [lenS, InI, nmin, EK.sz]; omega) | (simp only [lenS, InI, nmin, EK.sz] at *; omega))) ?_ | refine oM ?_ ?_ | refine bM ?_ ?_ | refine draw_of Try.mixed Try.tyOk 60 (by kernel_rfl) ?_))
            · rw [decide_eq_false (by assumption)] at ecm
              (conv => whnf)
              refine ⟨((s + r) / 2 + 1, r), [], ⟨by rfl, ?_, ?_⟩, hs.up (by omega) ecm, by simp only; omega⟩
              · simp [eqFr, eqHp, eqV, eqA, eqC, eqO, eqCs, eqAs, look_cons, look, rn, EK.cast, EK.sz, eqCaps]
              · simp [eqFr, eqHp, eqV, eqA, eqC, eqO, eqCs, eqAs, look_cons, look, rn, EK.cast, EK.sz, eqCaps]
            · rw [decide_eq_true (by assumption)] at ecm
              (conv => whnf)
              refine ⟨(s, (s + r) / 2), [], ⟨by rfl, ?_, ?_⟩, hs.down (by omega) ecm, by simp only; omega⟩
              · simp [eqFr, eqHp, eqV, eqA, eqC, eqO, eqCs, eqAs, look_cons, look, rn, EK.cast, EK.sz, eqCaps]
              · simp [eqFr, eqHp, eqV, eqA, eqC, eqO, eqCs, eqAs, look_cons, look, rn, EK.cast, EK.sz, eqCaps]
          · have e : s = r := by omega
            subst e
            have e2 : ((mid + m : Nat) : Int) - s = (mid + m - s : Nat) := by omega
            (conv => whnf)
            rw [e2]
            refine callF (rotate_c xs cap sp s m (mid + m - s) (by omega) (by omega) (by omega) hl) [0] Try.call136 rfl (by simp [eqLs, eqL, eqO, eqC, eqCs, rn, renOf, look_cons, look, EK.cast]) (by simp [appN, ptrs, eqVL, eqV, eqA, eqC, eqCs, eqAs, eqCaps, EK.sz, rn, renOf, look_cons, look, arcV, fV]) (by simp [appN, ptrs, SV.lt, SA.lt, SC.lt, arcV, fV, lenN]) ?_
            rintro _ _ ⟨ys, rfl, rfl, hm, hr⟩
            repeat' (first | exact rfl | ((conv => whnf); first | ((first | refine qA (fun h => ?_) fun h => ?_ | refine qN (fun h => ?_) fun h => ?_ | refine qB (fun h => ?_) fun h => ?_ | refine qC (fun h => ?_) fun h => ?_) <;> try exact absurd h (by omega)) | refine qM (fun h => ?_) fun h => ?_ | refine oM (by (first | omega | (simp only [lenS, InI, nmin, EK.sz]; omega) | (simp only [lenS, InI, nmin, EK.sz] at *; omega))) ?_ | refine oM ?_ ?_ | refine bM ?_ ?_ | refine draw_of Try.mixed Try.tyOk 60 (by kernel_rfl) ?_))
            (conv => whnf)
            refine ⟨(s, ys), [], ⟨by rfl, ?_, ?_⟩, ⟨by simp only; omega, by simp only; omega, by simp only; omega, by simp only; omega, hm.wide (by omega) (by omega), sym_cross ltW_ok h1 h2 ham hmb hmid hlh hs hr⟩⟩
            · simp [eqFr, eqHp, eqV, eqA, eqC, eqO, eqCs, eqAs, look_cons, look, rn, EK.cast, EK.sz, eqCaps]
            · simp [eqFr, eqHp, eqV, eqA, eqC, eqO, eqCs, eqAs, look_cons, look, rn, EK.cast, EK.sz, eqCaps]
          all_goals
            have e : s = r := by omega
            subst e
            (conv => whnf)
            refine ⟨(s, xs), [], ⟨by rfl, ?_, ?_⟩, ⟨by simp only; omega, by simp only; omega, by simp only; omega, by simp only; omega, Mv.refl _ _ _, sym_cross ltW_ok h1 h2 ham hmb hmid hlh hs (RotOn.none (by omega))⟩⟩
            · simp [eqFr, eqHp, eqV, eqA, eqC, eqO, eqCs, eqAs, look_cons, look, rn, EK.cast, EK.sz, eqCaps]
              omega
            · simp [eqFr, eqHp, eqV, eqA, eqC, eqO, eqCs, eqAs, look_cons, look, rn, EK.cast, EK.sz, eqCaps]
      · rintro ⟨s, ys⟩ ⟨g1, g2, g3, g4, hm, hc, s1, s2, s3, s4⟩
        simp only at g1 g2 g3 g4 hm hc s1 s2 s3 s4 ⊢
        have hyl := hm.len
        refine SemC.cut Try.tyOk 25 [] (fun zs : List Arc => ⟨[(0, .c (.sl 0 5 0 xs.length cap)), (1, .i a), (2, .i m), (3, .i b), (4, .c (.fn 115 [])), (18, .i mid), (20, .i s), (24, .i (mid + m - s : Nat))], [(0, .arr true 47 .arc zs sp)], 1⟩)
          (fun zs => Mv aD a mid ys zs ∧ SrtOn aD ltW a mid zs) 1 _ _ ?_ ?_
        · repeat' (first | exact rfl | ((conv => whnf); first | ((first | refine qA (fun h => ?_) fun h => ?_ | refine qN (fun h => ?_) fun h => ?_ | refine qB (fun h => ?_) fun h => ?_ | refine qC (fun h => ?_) fun h => ?_) <;> try exact absurd h (by omega)) | refine qM (fun h => ?_) fun h => ?_ | refine oM (by (first | omega | (simp only [lenS, InI, nmin, EK.sz]; omega) | (simp only [lenS, InI, nmin, EK.sz] at *; omega))) ?_ | refine oM ?_ ?_ | refine bM ?_ ?_ | refine draw_of Try.mixed Try.tyOk 60 (by kernel_rfl) ?_))
          · (conv => whnf)
            refine callF (ih ys cap sp a s mid (by omega) (by omega) (by omega) (by omega) (by omega) s1 s2) [0] Try.call134 rfl (by simp [eqLs, eqL, eqO, eqC, eqCs, rn, renOf, look_cons, look, EK.cast, hyl]) (by simp [appN, ptrs, eqVL, eqV, eqA, eqC, eqCs, eqAs, eqCaps, EK.sz, rn, renOf, look_cons, look, arcV, fV, hyl]) (by simp [appN, ptrs, SV.lt, SA.lt, SC.lt, arcV, fV, lenN]) ?_
            rintro _ _ ⟨zs, rfl, rfl, hm2, hs2⟩
            repeat' (first | exact rfl | ((conv => whnf); first | ((first | refine qA (fun h => ?_) fun h => ?_ | refine qN (fun h => ?_) fun h => ?_ | refine qB (fun h => ?_) fun h => ?_ | refine qC (fun h => ?_) fun h => ?_) <;> try exact absurd h (by omega)) | refine qM (fun h => ?_) fun h => ?_ | refine oM (by (first | omega | (simp only [lenS, InI, nmin, EK.sz]; omega) | (simp only [lenS, InI, nmin, EK.sz] at *; omega))) ?_ | refine oM ?_ ?_ | refine bM ?_ ?_ | refine draw_of Try.mixed Try.tyOk 60 (by kernel_rfl) ?_))
            (conv => whnf)
            refine ⟨zs, [], ⟨by rfl, ?_, ?_⟩, hm2, hs2⟩
            · simp [eqFr, eqHp, eqV, eqA, eqC, eqO, eqCs, eqAs, look_cons, look, rn, EK.cast, EK.sz, eqCaps]
            · simp [eqFr, eqHp, eqV, eqA, eqC, eqO, eqCs, eqAs, look_cons, look, rn, EK.cast, EK.sz, eqCaps]
          · (conv => whnf)
            have e : s = mid := by omega
            refine ⟨ys, [], ⟨by rfl, ?_, ?_⟩, Mv.refl _ _ _, e ▸ s1⟩
            · simp [eqFr, eqHp, eqV, eqA, eqC, eqO, eqCs, eqAs, look_cons, look, rn, EK.cast, EK.sz, eqCaps]
            · simp [eqFr, eqHp, eqV, eqA, eqC, eqO, eqCs, eqAs, look_cons, look, rn, EK.cast, EK.sz, eqCaps]
          · (conv => whnf)
            have e : s = a := by omega
            refine ⟨ys, [], ⟨by rfl, ?_, ?_⟩, Mv.refl _ _ _, e ▸ s2⟩
            · simp [eqFr, eqHp, eqV, eqA, eqC, eqO, eqCs, eqAs, look_cons, look, rn, EK.cast, EK.sz, eqCaps]
            · simp [eqFr, eqHp, eqV, eqA, eqC, eqO, eqCs, eqAs, look_cons, look, rn, EK.cast, EK.sz, eqCaps]
        · rintro zs ⟨hm2, hs2⟩
          have hzl := hm2.len
          have s3' := s3.kept hm2 (.inr (Nat.le_refl _))
          have s4' := s4.kept hm2 (.inr g3)
          refine SemC.of Try.tyOk 25 [] ?_
          repeat' (first | exact rfl | ((conv => whnf); first | ((first | refine qA (fun h => ?_) fun h => ?_ | refine qN (fun h => ?_) fun h => ?_ | refine qB (fun h => ?_) fun h => ?_ | refine qC (fun h => ?_) fun h => ?_) <;> try exact absurd h (by omega)) | refine qM (fun h => ?_) fun h => ?_ | refine oM (by (first | omega | (simp only [lenS, InI, nmin, EK.sz]; omega) | (simp only [lenS, InI, nmin, EK.sz] at *; omega))) ?_ | refine oM ?_ ?_ | refine bM ?_ ?_ | refine draw_of Try.mixed Try.tyOk 60 (by kernel_rfl) ?_))
          · (conv => whnf)
            refine callF (ih zs cap sp mid (mid + m - s) b (by omega) (by omega) (by omega) (by omega) (by omega) s3' s4') [0] Try.call134 rfl (by simp [eqLs, eqL, eqO, eqC, eqCs, rn, renOf, look_cons, look, EK.cast, hyl, hzl]) (by simp [appN, ptrs, eqVL, eqV, eqA, eqC, eqCs, eqAs, eqCaps, EK.sz, rn, renOf, look_cons, look, arcV, fV, hyl, hzl]) (by simp [appN, ptrs, SV.lt, SA.lt, SC.lt, arcV, fV, lenN]) ?_
            rintro _ _ ⟨us, rfl, rfl, hm3, hs3⟩
            repeat' (first | exact rfl | ((conv => whnf); first | ((first | refine qA (fun h => ?_) fun h => ?_ | refine qN (fun h => ?_) fun h => ?_ | refine qB (fun h => ?_) fun h => ?_ | refine qC (fun h => ?_) fun h => ?_) <;> try exact absurd h (by omega)) | refine qM (fun h => ?_) fun h => ?_ | refine oM (by (first | omega | (simp only [lenS, InI, nmin, EK.sz]; omega) | (simp only [lenS, InI, nmin, EK.sz] at *; omega))) ?_ | refine oM ?_ ?_ | refine bM ?_ ?_ | refine draw_of Try.mixed Try.tyOk 60 (by kernel_rfl) ?_))
            (conv => whnf)
            exact ⟨[], [(0, .arr true 47 .arc us sp)], 1, .u, ⟨by rfl, trivial, by simp [eqFr, eqHp, eqV, eqA, eqC, eqO, eqCs, eqAs, look_cons, look, rn, EK.cast, EK.sz, eqCaps]⟩, by simp [eqV, eqAs], us, rfl, rfl, hm.trans ((hm2.wide (Nat.le_refl _) (by omega)).trans (hm3.wide (by omega) (Nat.le_refl _))), cross_merge hc hm2 hs2 hm3 hs3⟩
          · (conv => whnf)
            have e : mid + m - s = b := by omega
            exact ⟨[], [(0, .arr true 47 .arc zs sp)], 1, .u, ⟨by rfl, trivial, by simp [eqFr, eqHp, eqV, eqA, eqC, eqO, eqCs, eqAs, look_cons, look, rn, EK.cast, EK.sz, eqCaps]⟩, by simp [eqV, eqAs], zs, rfl, rfl, hm.trans (hm2.wide (Nat.le_refl _) (by omega)), cross_merge hc hm2 hs2 (Mv.refl _ _ _) (e ▸ s3')⟩
          · (conv => whnf)
            have e : mid + m - s = mid := by omega
            exact ⟨[], [(0, .arr true 47 .arc zs sp)], 1, .u, ⟨by rfl, trivial, by simp [eqFr, eqHp, eqV, eqA, eqC, eqO, eqCs, eqAs, look_cons, look, rn, EK.cast, EK.sz, eqCaps]⟩, by simp [eqV, eqAs], zs, rfl, rfl, hm.trans (hm2.wide (Nat.le_refl _) (by omega)), cross_merge hc hm2 hs2 (Mv.refl _ _ _) (e ▸ s4')⟩
end Go.Fw

namespace Go.Fw
open Go Go.Proofs

set_option maxHeartbeats 8000000 in
set_option maxRecDepth 20000 in
theorem stable_c (xs : List Arc) (cap sp : Nat) (hl : xs.length ≤ 1000000) : Ct Try.prog 126 [.c (.sl 0 5 0 xs.length cap), .i xs.length, .c (.fn 115 [])] [] [(0, .arr true 47 .arc xs sp)] 1
    (fun v s => ∃ ys, v = .u ∧ s = ⟨[], [(0, .arr true 47 .arc ys sp)], 1⟩ ∧ Mv aD 0 xs.length xs ys ∧ SrtOn aD ltW 0 xs.length ys) := by
  obtain ⟨n, hn⟩ : ∃ n, n = xs.length := ⟨_, rfl⟩
  rw [← hn] at hl ⊢
  refine ctW Try.tyOk 10 [] Try.func126 rfl (by simp [SV.lt, SA.lt, SC.lt, arcV, fV]) (by simp) (fr := [(0, .c (.sl 0 5 0 n cap)), (1, .i n), (2, .c (.fn 115 []))]) rfl ?_
  repeat' (first | exact rfl | ((conv => whnf); first | ((first | refine qA (fun h => ?_) fun h => ?_ | refine qN (fun h => ?_) fun h => ?_ | refine qB (fun h => ?_) fun h => ?_ | refine qC (fun h => ?_) fun h => ?_) <;> try exact absurd h (by omega)) | refine qM (fun h => ?_) fun h => ?_ | refine oM (by (first | omega | (simp only [lenS, InI, nmin, EK.sz]; omega) | (simp only [lenS, InI, nmin, EK.sz] at *; omega))) ?_ | refine oM ?_ ?_ | refine bM ?_ ?_ | refine draw_of Try.mixed Try.tyOk 60 (by kernel_rfl) ?_))
  (conv => whnf)
  refine loopI (fun y : Nat × List Arc => ⟨[(0, .c (.sl 0 5 0 n cap)), (1, .i n), (2, .c (.fn 115 [])), (6, .i 20), (7, .i y.1), (8, .i (y.1 + 20 : Nat))], [(0, .arr true 47 .arc y.2 sp)], 1⟩)
    (fun y => y.1 ≤ n ∧ UpTo aD ltW 20 y.1 y.2 ∧ Mv aD 0 n xs y.2) (fun y => n - y.1) (0, xs) [] ⟨by rfl, ?_, ?_⟩ ⟨Nat.zero_le _, UpTo.zero _ _, Mv.refl _ _ _⟩ ?_
  · simp [eqFr, eqHp, eqV, eqA, eqC, eqO, eqCs, eqAs, look_cons, look, rn, EK.cast, EK.sz, eqCaps]
  · simp [eqFr, eqHp, eqV, eqA, eqC, eqO, eqCs, eqAs, look_cons, look, rn, EK.cast, EK.sz, eqCaps]
  · rintro ⟨a, ys⟩ ⟨ha, hu, hm⟩
    simp only at ha hu hm ⊢
    have hyl := hm.len
    repeat' (first | exact rfl | ((conv => whnf); first | ((first | refine qA (fun h => ?_) fun h => ?_ | refine qN (fun h => ?_) fun h => ?_ | refine qB (fun h => ?_) fun h => ?_ | refine qC (fun h => ?_) fun h => ?_) <;> try exact absurd h (by omega)) | refine qM (fun h => ?_) fun h => ?_ | refine oM (by (first | omega | (simp only [lenS, InI, nmin, EK.sz]; omega) | (simp only [lenS, InI, nmin, EK.sz] at *; omega))) ?_ | refine oM ?_ ?_ | refine bM ?_ ?_ | refine draw_of Try.mixed Try.tyOk 60 (by kernel_rfl) ?_))
    · (conv => whnf)
      refine callF (insertion_c ys cap sp a (a + 20) (by omega) (by omega) (by omega)) [0] Try.call133 rfl (by simp [eqLs, eqL, eqO, eqC, eqCs, rn, renOf, look_cons, look, EK.cast, hyl, hn]) (by simp [appN, ptrs, eqVL, eqV, eqA, eqC, eqCs, eqAs, eqCaps, EK.sz, rn, renOf, look_cons, look, arcV, fV, hyl, hn]) (by simp [appN, ptrs, SV.lt, SA.lt, SC.lt, arcV, fV, lenN]) ?_
      rintro _ _ ⟨zs, rfl, rfl, hm2, hs2⟩
      repeat' (first | exact rfl | ((conv => whnf); first | ((first | refine qA (fun h => ?_) fun h => ?_ | refine qN (fun h => ?_) fun h => ?_ | refine qB (fun h => ?_) fun h => ?_ | refine qC (fun h => ?_) fun h => ?_) <;> try exact absurd h (by omega)) | refine qM (fun h => ?_) fun h => ?_ | refine oM (by (first | omega | (simp only [lenS, InI, nmin, EK.sz]; omega) | (simp only [lenS, InI, nmin, EK.sz] at *; omega))) ?_ | refine oM ?_ ?_ | refine bM ?_ ?_ | refine draw_of Try.mixed Try.tyOk 60 (by kernel_rfl) ?_))
      (conv => whnf)
      refine ⟨(a + 20, zs), [], ⟨by rfl, ?_, ?_⟩, ⟨by simp only; omega, hu.next hm2 hs2, hm.trans (hm2.wide (Nat.zero_le _) (by omega))⟩, by simp only; omega⟩
      · simp [eqFr, eqHp, eqV, eqA, eqC, eqO, eqCs, eqAs, look_cons, look, rn, EK.cast, EK.sz, eqCaps]
      · simp [eqFr, eqHp, eqV, eqA, eqC, eqO, eqCs, eqAs, look_cons, look, rn, EK.cast, EK.sz, eqCaps]
    · (conv => whnf)
      refine callF (insertion_c ys cap sp a n (by omega) (by omega) (by omega)) [0] Try.call133 rfl (by simp [eqLs, eqL, eqO, eqC, eqCs, rn, renOf, look_cons, look, EK.cast, hyl, hn]) (by simp [appN, ptrs, eqVL, eqV, eqA, eqC, eqCs, eqAs, eqCaps, EK.sz, rn, renOf, look_cons, look, arcV, fV, hyl, hn]) (by simp [appN, ptrs, SV.lt, SA.lt, SC.lt, arcV, fV, lenN]) ?_
      rintro _ _ ⟨zs, rfl, rfl, hm2, hs2⟩
      have hal := hu.done ha (by omega) hm2 hs2
      have hm3 := hm.trans (hm2.wide (Nat.zero_le _) (Nat.le_refl _))
      clear hm2 hs2 hu hm
      repeat' (first | exact rfl | ((conv => whnf); first | ((first | refine qA (fun h => ?_) fun h => ?_ | refine qN (fun h => ?_) fun h => ?_ | refine qB (fun h => ?_) fun h => ?_ | refine qC (fun h => ?_) fun h => ?_) <;> try exact absurd h (by omega)) | refine qM (fun h => ?_) fun h => ?_ | refine oM (by (first | omega | (simp only [lenS, InI, nmin, EK.sz]; omega) | (simp only [lenS, InI, nmin, EK.sz] at *; omega))) ?_ | refine oM ?_ ?_ | refine bM ?_ ?_ | refine draw_of Try.mixed Try.tyOk 60 (by kernel_rfl) ?_))
      (conv => whnf)
      refine loopI (fun y : Nat × List Arc => ⟨[(0, .c (.sl 0 5 0 n cap)), (1, .i n), (2, .c (.fn 115 [])), (6, .i y.1)], [(0, .arr true 47 .arc y.2 sp)], 1⟩)
        (fun y => 1 ≤ y.1 ∧ y.1 ≤ 2 * n + 20 ∧ AllBl aD ltW y.1 n y.2 ∧ Mv aD 0 n xs y.2) (fun y => n - y.1) (20, zs) [] ⟨by rfl, ?_, ?_⟩ ⟨by simp only; omega, by simp only; omega, hal, hm3⟩ ?_
      · simp [eqFr, eqHp, eqV, eqA, eqC, eqO, eqCs, eqAs, look_cons, look, rn, EK.cast, EK.sz, eqCaps]
      · simp [eqFr, eqHp, eqV, eqA, eqC, eqO, eqCs, eqAs, look_cons, look, rn, EK.cast, EK.sz, eqCaps]
      · clear hal hm3
        rintro ⟨bs, ys⟩ ⟨hb1, hb2, hal, hm⟩
        simp only at hb1 hb2 hal hm ⊢
        repeat' (first | exact rfl | ((conv => whnf); first | ((first | refine qA (fun h => ?_) fun h => ?_ | refine qN (fun h => ?_) fun h => ?_ | refine qB (fun h => ?_) fun h => ?_ | refine qC (fun h => ?_) fun h => ?_) <;> try exact absurd h (by omega)) | refine qM (fun h => ?_) fun h => ?_ | refine oM (by (first | omega | (simp only [lenS, InI, nmin, EK.sz]; omega) | (simp only [lenS, InI, nmin, EK.sz] at *; omega))) ?_ | refine oM ?_ ?_ | refine bM ?_ ?_ | refine draw_of Try.mixed Try.tyOk 60 (by kernel_rfl) ?_))
        · (conv => whnf)
          refine loopI (fun y : Nat × List Arc => ⟨[(0, .c (.sl 0 5 0 n cap)), (1, .i n), (2, .c (.fn 115 [])), (6, .i bs), (7, .i y.1), (8, .i (y.1 + 2 * bs : Nat))], [(0, .arr true 47 .arc y.2 sp)], 1⟩)
            (fun y => y.1 ≤ n ∧ Half aD ltW bs n y.1 y.2 ∧ Mv aD 0 n xs y.2) (fun y => n - y.1) (0, ys) [] ⟨by rfl, ?_, ?_⟩ ⟨Nat.zero_le _, Half.zero hal, hm⟩ ?_
          · simp [eqFr, eqHp, eqV, eqA, eqC, eqO, eqCs, eqAs, look_cons, look, rn, EK.cast, EK.sz, eqCaps]
          · simp [eqFr, eqHp, eqV, eqA, eqC, eqO, eqCs, eqAs, look_cons, look, rn, EK.cast, EK.sz, eqCaps]
          · clear hal hm
            rintro ⟨a, ys⟩ ⟨ha, hh, hm⟩
            simp only at ha hh hm ⊢
            have hyl := hm.len
            have e1 : (a : Int) + bs = (a + bs : Nat) := by omega
            repeat' (first | exact rfl | ((conv => whnf); first | ((first | refine qA (fun h => ?_) fun h => ?_ | refine qN (fun h => ?_) fun h => ?_ | refine qB (fun h => ?_) fun h => ?_ | refine qC (fun h => ?_) fun h => ?_) <;> try exact absurd h (by omega)) | refine qM (fun h => ?_) fun h => ?_ | refine oM (by (first | omega | (simp only [lenS, InI, nmin, EK.sz]; omega) | (simp only [lenS, InI, nmin, EK.sz] at *; omega))) ?_ | refine oM ?_ ?_ | refine bM ?_ ?_ | refine draw_of Try.mixed Try.tyOk 60 (by kernel_rfl) ?_))
            · (conv => whnf)
              rw [e1]
              obtain ⟨s1, s2⟩ := hh.two (by omega)
              rw [Nat.min_eq_left (by omega)] at s2
              refine callF (symMerge_c n ys cap sp a (a + bs) (a + 2 * bs) (by omega) (by omega) (by omega) (by omega) (by omega) s1 s2) [0] Try.call134 rfl (by simp [eqLs, eqL, eqO, eqC, eqCs, rn, renOf, look_cons, look, EK.cast, hyl, hn]) (by simp [appN, ptrs, eqVL, eqV, eqA, eqC, eqCs, eqAs, eqCaps, EK.sz, rn, renOf, look_cons, look, arcV, fV, hyl, hn]) (by simp [appN, ptrs, SV.lt, SA.lt, SC.lt, arcV, fV, lenN]) ?_
              rintro _ _ ⟨zs, rfl, rfl, hm2, hs2⟩
              repeat' (first | exact rfl | ((conv => whnf); first | ((first | refine qA (fun h => ?_) fun h => ?_ | refine qN (fun h => ?_) fun h => ?_ | refine qB (fun h => ?_) fun h => ?_ | refine qC (fun h => ?_) fun h => ?_) <;> try exact absurd h (by omega)) | refine qM (fun h => ?_) fun h => ?_ | refine oM (by (first | omega | (simp only [lenS, InI, nmin, EK.sz]; omega) | (simp only [lenS, InI, nmin, EK.sz] at *; omega))) ?_ | refine oM ?_ ?_ | refine bM ?_ ?_ | refine draw_of Try.mixed Try.tyOk 60 (by kernel_rfl) ?_))
              (conv => whnf)
              refine ⟨(a + 2 * bs, zs), [], ⟨by rfl, ?_, ?_⟩, ⟨by simp only; omega, hh.next hm2 hs2, hm.trans (hm2.wide (Nat.zero_le _) (by omega))⟩, by simp only; omega⟩
              · simp [eqFr, eqHp, eqV, eqA, eqC, eqO, eqCs, eqAs, look_cons, look, rn, EK.cast, EK.sz, eqCaps]
              · simp [eqFr, eqHp, eqV, eqA, eqC, eqO, eqCs, eqAs, look_cons, look, rn, EK.cast, EK.sz, eqCaps]
            · (conv => whnf)
              rw [e1]
              obtain ⟨s1, s2⟩ := hh.two (by omega)
              rw [Nat.min_eq_right (by omega)] at s2
              refine callF (symMerge_c n ys cap sp a (a + bs) n (by omega) (by omega) (by omega) (by omega) (by omega) s1 s2) [0] Try.call134 rfl (by simp [eqLs, eqL, eqO, eqC, eqCs, rn, renOf, look_cons, look, EK.cast, hyl, hn]) (by simp [appN, ptrs, eqVL, eqV, eqA, eqC, eqCs, eqAs, eqCaps, EK.sz, rn, renOf, look_cons, look, arcV, fV, hyl, hn]) (by simp [appN, ptrs, SV.lt, SA.lt, SC.lt, arcV, fV, lenN]) ?_
              rintro _ _ ⟨zs, rfl, rfl, hm2, hs2⟩
              repeat' (first | exact rfl | ((conv => whnf); first | ((first | refine qA (fun h => ?_) fun h => ?_ | refine qN (fun h => ?_) fun h => ?_ | refine qB (fun h => ?_) fun h => ?_ | refine qC (fun h => ?_) fun h => ?_) <;> try exact absurd h (by omega)) | refine qM (fun h => ?_) fun h => ?_ | refine oM (by (first | omega | (simp only [lenS, InI, nmin, EK.sz]; omega) | (simp only [lenS, InI, nmin, EK.sz] at *; omega))) ?_ | refine oM ?_ ?_ | refine bM ?_ ?_ | refine draw_of Try.mixed Try.tyOk 60 (by kernel_rfl) ?_))
              (conv => whnf)
              refine ⟨(2 * bs, zs), [], ⟨by rfl, ?_, ?_⟩, ⟨by simp only; omega, by simp only; omega, hh.done ha (by omega) hm2 hs2, hm.trans (hm2.wide (Nat.zero_le _) (Nat.le_refl _))⟩, by simp only; omega⟩
              · simp [eqFr, eqHp, eqV, eqA, eqC, eqO, eqCs, eqAs, look_cons, look, rn, EK.cast, EK.sz, eqCaps]
                omega
              · simp [eqFr, eqHp, eqV, eqA, eqC, eqO, eqCs, eqAs, look_cons, look, rn, EK.cast, EK.sz, eqCaps]
            · (conv => whnf)
              refine ⟨(2 * bs, ys), [], ⟨by rfl, ?_, ?_⟩, ⟨by simp only; omega, by simp only; omega, hh.done ha (by omega) (Mv.refl _ _ _) (hh.low (by omega)), hm⟩, by simp only; omega⟩
              · simp [eqFr, eqHp, eqV, eqA, eqC, eqO, eqCs, eqAs, look_cons, look, rn, EK.cast, EK.sz, eqCaps]
                omega
              · simp [eqFr, eqHp, eqV, eqA, eqC, eqO, eqCs, eqAs, look_cons, look, rn, EK.cast, EK.sz, eqCaps]
        · (conv => whnf)
          exact ⟨[], [(0, .arr true 47 .arc ys sp)], 1, .u, ⟨by rfl, trivial, by simp [eqFr, eqHp, eqV, eqA, eqC, eqO, eqCs, eqAs, look_cons, look, rn, EK.cast, EK.sz, eqCaps]⟩, by simp [eqV, eqAs], ys, rfl, rfl, hm, hal.all (by omega)⟩

set_option maxHeartbeats 8000000 in
set_option maxRecDepth 20000 in
theorem sortStable_c (xs : List Arc) (cap sp : Nat) (hl : xs.length ≤ 1000000) : Ct Try.prog 114 [.c (.sl 0 5 0 xs.length cap), .c (.fn 115 [])] [] [(0, .arr true 47 .arc xs sp)] 1
    (fun v s => ∃ ys, v = .u ∧ s = ⟨[], [(0, .arr true 47 .arc ys sp)], 1⟩ ∧ Mv aD 0 xs.length xs ys ∧ SrtOn aD ltW 0 xs.length ys) := by
  refine ctW Try.tyOk 4 [] Try.func114 rfl (by simp [SV.lt, SA.lt, SC.lt, arcV, fV]) (by simp) (fr := [(0, .c (.sl 0 5 0 xs.length cap)), (1, .c (.fn 115 []))]) rfl ?_
  repeat' (first | exact rfl | ((conv => whnf); first | ((first | refine qA (fun h => ?_) fun h => ?_ | refine qN (fun h => ?_) fun h => ?_ | refine qB (fun h => ?_) fun h => ?_ | refine qC (fun h => ?_) fun h => ?_) <;> try exact absurd h (by omega)) | refine qM (fun h => ?_) fun h => ?_ | refine oM (by (first | omega | (simp only [lenS, InI, nmin, EK.sz]; omega) | (simp only [lenS, InI, nmin, EK.sz] at *; omega))) ?_ | refine oM ?_ ?_ | refine bM ?_ ?_ | refine draw_of Try.mixed Try.tyOk 60 (by kernel_rfl) ?_))
  (conv => whnf)
  refine callF (stable_c xs cap sp hl) [0] Try.call126 rfl (by simp [eqLs, eqL, eqO, eqC, eqCs, rn, renOf, look_cons, look, EK.cast]) (by simp [appN, ptrs, eqVL, eqV, eqA, eqC, eqCs, eqAs, eqCaps, EK.sz, rn, renOf, look_cons, look, arcV, fV]) (by simp [appN, ptrs, SV.lt, SA.lt, SC.lt, arcV, fV, lenN]) ?_
  rintro _ _ ⟨ys, rfl, rfl, hm, hs⟩
  repeat' (first | exact rfl | ((conv => whnf); first | ((first | refine qA (fun h => ?_) fun h => ?_ | refine qN (fun h => ?_) fun h => ?_ | refine qB (fun h => ?_) fun h => ?_ | refine qC (fun h => ?_) fun h => ?_) <;> try exact absurd h (by omega)) | refine qM (fun h => ?_) fun h => ?_ | refine oM (by (first | omega | (simp only [lenS, InI, nmin, EK.sz]; omega) | (simp only [lenS, InI, nmin, EK.sz] at *; omega))) ?_ | refine oM ?_ ?_ | refine bM ?_ ?_ | refine draw_of Try.mixed Try.tyOk 60 (by kernel_rfl) ?_))
  (conv => whnf)
  exact ⟨[], [(0, .arr true 47 .arc ys sp)], 1, .u, ⟨by rfl, trivial, by simp [eqFr, eqHp, eqV, eqA, eqC, eqO, eqCs, eqAs, look_cons, look, rn, EK.cast, EK.sz, eqCaps]⟩, by simp [eqV, eqAs], ys, rfl, rfl, hm, hs⟩
end Go.Fw

/-
  Arcs in order, of those that are the same the least weight: told by what it is; there is one such list.
-/
namespace Go.Fw
open Go

/-- The same key. -/
def Key (a b : Arc) : Prop := a.f = b.f ∧ a.i = b.i ∧ a.o = b.o ∧ a.t = b.t

theorem aheadB_iff {a b : Arc} : aheadB a b = true ↔ a.f < b.f ∨ a.f = b.f ∧ (a.i < b.i ∨ a.i = b.i ∧ (a.o < b.o ∨ a.o = b.o ∧ a.t < b.t)) := by
  unfold aheadB
  by_cases h1 : a.f = b.f
  · by_cases h2 : a.i = b.i
    · by_cases h3 : a.o = b.o
      · by_cases h4 : a.t = b.t
        · simp [h1, h2, h3, h4]
        · simp [h1, h2, h3, h4]
      · simp [h1, h2, h3]
    · simp [h1, h2]
  · simp [h1]

theorem Key.not_ahead {a b : Arc} (h : Key a b) : aheadB a b = false := by
  rw [← Bool.not_eq_true, aheadB_iff]
  unfold Key at h
  omega

theorem sameK_iff {a b : Arc} : sameK a b = true ↔ Key a b := by
  unfold sameK Key
  rw [decide_eq_true_eq, orderI_zero]

theorem Key.symm {a b : Arc} (h : Key a b) : Key b a := ⟨h.1.symm, h.2.1.symm, h.2.2.1.symm, h.2.2.2.symm⟩
theorem Key.trans {a b c : Arc} (h : Key a b) (h' : Key b c) : Key a c := ⟨h.1.trans h'.1, h.2.1.trans h'.2.1, h.2.2.1.trans h'.2.2.1, h.2.2.2.trans h'.2.2.2⟩
theorem Key.refl (a : Arc) : Key a a := ⟨rfl, rfl, rfl, rfl⟩
theorem Key.eq {a b : Arc} (h : Key a b) (hw : a.w = b.w) : a = b := by
  obtain ⟨a1, a2, a3, a4, a5⟩ := a
  obtain ⟨b1, b2, b3, b4, b5⟩ := b
  obtain ⟨h1, h2, h3, h4⟩ := h
  simp only at *
  subst h1 h2 h3 h4 hw
  rfl
theorem Key.ahead_l {a b c : Arc} (h : Key a b) (h' : aheadB b c = true) : aheadB a c = true := by
  rw [aheadB_iff] at h' ⊢
  unfold Key at h
  omega
/-- zs: the arcs of xs in order, of those that are the same the one that weighs least. -/
structure IsNorm (xs zs : List Arc) : Prop where
  srt : Srt zs
  sub : ∀ z ∈ zs, z ∈ xs
  cov : ∀ x ∈ xs, ∃ z ∈ zs, Key z x ∧ z.w ≤ x.w

theorem Srt.key {l : List Arc} (h : Srt l) {a b : Arc} (ha : a ∈ l) (hb : b ∈ l) (hk : Key a b) : a = b := by
  induction l with
  | nil => cases ha
  | cons x l ih =>
    unfold Srt at h
    rw [List.pairwise_cons] at h
    rw [List.mem_cons] at ha hb
    rcases ha with ha | ha
    · rcases hb with hb | hb
      · rw [ha, hb]
      · have := h.1 b hb; rw [← ha, hk.not_ahead] at this; cases this
    · rcases hb with hb | hb
      · have := h.1 a ha; rw [← hb, hk.symm.not_ahead] at this; cases this
      · exact ih h.2 ha hb

theorem Srt.ext {l m : List Arc} (hl : Srt l) (hm : Srt m) (h : ∀ a, a ∈ l ↔ a ∈ m) : l = m := by
  induction l generalizing m with
  | nil =>
    cases m with
    | nil => rfl
    | cons y m => have := (h y).2 (by simp); cases this
  | cons x l ih =>
    cases m with
    | nil => have := (h x).1 (by simp); cases this
    | cons y m =>
      unfold Srt at hl hm
      rw [List.pairwise_cons] at hl hm
      have e : x = y := by
        rcases List.mem_cons.1 ((h x).1 (by simp)) with e | hx
        · exact e
        · rcases List.mem_cons.1 ((h y).2 (by simp)) with e | hy
          · exact e.symm
          · have h1 := hl.1 y hy
            have h2 := hm.1 x hx
            rw [aheadB_asymm h1] at h2
            cases h2
      subst e
      rw [ih hl.2 hm.2]
      intro a
      constructor
      · intro ha
        rcases List.mem_cons.1 ((h a).1 (List.mem_cons_of_mem _ ha)) with rfl | h'
        · have := hl.1 a ha; rw [aheadB_irr] at this; cases this
        · exact h'
      · intro ha
        rcases List.mem_cons.1 ((h a).2 (List.mem_cons_of_mem _ ha)) with rfl | h'
        · have := hm.1 a ha; rw [aheadB_irr] at this; cases this
        · exact h'

theorem IsNorm.uniq {xs zs zs' : List Arc} (h : IsNorm xs zs) (h' : IsNorm xs zs') : zs = zs' := by
  have key : ∀ {zs zs' : List Arc}, IsNorm xs zs → IsNorm xs zs' → ∀ z ∈ zs, z ∈ zs' := by
    intro zs zs' h h' z hz
    obtain ⟨y, hy, hk, hw⟩ := h'.cov z (h.sub z hz)
    obtain ⟨u, hu, hk2, hw2⟩ := h.cov y (h'.sub y hy)
    have e := h.srt.key hu hz (hk2.trans hk)
    subst e
    have : y = u := hk.eq (by omega)
    subst this
    exact hy
  exact h.srt.ext h'.srt fun a => ⟨key h h' a, key h' h a⟩

theorem compL_norm : ∀ (l : List Arc) (p : Arc), (p :: l).Pairwise (fun a b => ltW b a = false) →
    (∀ z ∈ compL p l, aheadB p z = true) ∧ Srt (compL p l) ∧ (∀ z ∈ compL p l, z ∈ l) ∧ ∀ x ∈ l, (Key p x ∧ p.w ≤ x.w) ∨ ∃ z ∈ compL p l, Key z x ∧ z.w ≤ x.w
  | [], p, _ => ⟨fun z h => (by cases h), .nil, fun z h => (by cases h), fun x h => (by cases h)⟩
  | x :: l, p, h => by
    have h2 := (List.pairwise_cons.1 h)
    obtain ⟨i1, i2, i3, i4⟩ := compL_norm l x h2.2
    have hpx := h2.1 x (by simp)
    rw [← Bool.not_eq_true, ltW_iff] at hpx
    simp only [compL]
    by_cases hk : sameK x p = true
    · rw [if_pos hk]
      have hk' := sameK_iff.1 hk
      have hw : p.w ≤ x.w := by obtain ⟨e1, e2, e3, e4⟩ := hk'; omega
      refine ⟨fun z hz => hk'.symm.ahead_l (i1 z hz), i2, fun z hz => List.mem_cons_of_mem _ (i3 z hz), fun y hy => ?_⟩
      rcases List.mem_cons.1 hy with rfl | hy
      · exact .inl ⟨hk'.symm, hw⟩
      · rcases i4 y hy with ⟨g1, g2⟩ | g
        · exact .inl ⟨hk'.symm.trans g1, by omega⟩
        · exact .inr g
    · rw [if_neg hk]
      have hne : ¬ Key x p := fun c => hk (sameK_iff.2 c)
      have ha : aheadB p x = true := by
        rw [aheadB_iff]
        unfold Key at hne
        omega
      refine ⟨fun z hz => ?_, ?_, fun z hz => ?_, fun y hy => ?_⟩
      · rcases List.mem_cons.1 hz with rfl | hz
        · exact ha
        · exact aheadB_trans ha (i1 z hz)
      · exact List.pairwise_cons.2 ⟨i1, i2⟩
      · rcases List.mem_cons.1 hz with rfl | hz
        · simp
        · exact List.mem_cons_of_mem _ (i3 z hz)
      · right
        rcases List.mem_cons.1 hy with rfl | hy
        · exact ⟨y, by simp, Key.refl y, Int.le_refl _⟩
        · rcases i4 y hy with ⟨g1, g2⟩ | ⟨z, g1, g2, g3⟩
          · exact ⟨x, by simp, g1, g2⟩
          · exact ⟨z, List.mem_cons_of_mem _ g1, g2, g3⟩

theorem comp_norm {ys : List Arc} (h : ys.Pairwise (fun a b => ltW b a = false)) : IsNorm ys (comp ys) := by
  cases ys with
  | nil => exact ⟨.nil, fun z h => (by cases h), fun x h => (by cases h)⟩
  | cons p l =>
    obtain ⟨i1, i2, i3, i4⟩ := compL_norm l p h
    refine ⟨List.pairwise_cons.2 ⟨i1, i2⟩, fun z hz => ?_, fun x hx => ?_⟩
    · rcases List.mem_cons.1 hz with rfl | hz
      · simp
      · exact List.mem_cons_of_mem _ (i3 z hz)
    · rcases List.mem_cons.1 hx with rfl | hx
      · exact ⟨x, by simp [comp], Key.refl x, Int.le_refl _⟩
      · rcases i4 x hx with ⟨g1, g2⟩ | ⟨z, g1, g2, g3⟩
        · exact ⟨p, by simp [comp], g1, g2⟩
        · exact ⟨z, List.mem_cons_of_mem _ g1, g2, g3⟩

/-- What sorting comes to. -/
def SortIs (xs zs : List Arc) : Prop := ∃ ys : List Arc, ys.Perm xs ∧ SrtOn aD ltW 0 xs.length ys ∧ zs = comp ys

theorem SortIs.norm {xs zs : List Arc} (h : SortIs xs zs) : IsNorm xs zs := by
  obtain ⟨ys, hp, hs, rfl⟩ := h
  have hl := hp.length_eq
  have := comp_norm (ys := ys) (by
    rw [List.pairwise_iff_getElem]
    intro i j hi hj hij
    have := hs i j (Nat.zero_le _) hij (by omega)
    simpa [List.getD, hi, hj] using this)
  exact ⟨this.srt, fun z hz => hp.mem_iff.1 (this.sub z hz), fun x hx => this.cov x (hp.mem_iff.2 hx)⟩

/-! ### One more, put where it goes -/
theorem IsNorm.nil : IsNorm [] [] := ⟨.nil, fun z h => (by cases h), fun x h => (by cases h)⟩

theorem Srt.at {l : List Arc} (h : Srt l) {i j : Nat} (hij : i < j) (hj : j < l.length) : aheadB (l.getD i aD) (l.getD j aD) = true := by
  have := (List.pairwise_iff_getElem.1 h) i j (by omega) hj hij
  simpa [List.getD, hj, show i < l.length by omega] using this

theorem mem_getD {l : List Arc} {z : Arc} (h : z ∈ l) : ∃ i, i < l.length ∧ l.getD i aD = z := by
  obtain ⟨i, hi, e⟩ := List.getElem_of_mem h
  exact ⟨i, hi, by simp [List.getD, hi, e]⟩

/-- It is new. -/
theorem IsNorm.put {xs out : List Arc} {x : Arc} {at_ : Nat} (h : IsNorm xs out) (h2 : at_ ≤ out.length) (hb : ∀ j, at_ ≤ j → j < out.length → aheadB x (out.getD j aD) = true) (ha : at_ = 0 ∨ aheadB (out.getD (at_ - 1) aD) x = true) :
    IsNorm (xs ++ [x]) (out.take at_ ++ [x] ++ out.drop at_) := by
  have hlow : ∀ z ∈ out.take at_, aheadB z x = true := by
    intro z hz
    obtain ⟨i, hi, e⟩ := mem_getD hz
    rw [List.length_take] at hi
    have e2 : (out.take at_).getD i aD = out.getD i aD := by
      have : i < at_ := by omega
      simp [List.getD, this]
    rw [e2] at e
    rcases ha with ha | ha
    · omega
    · by_cases c : i = at_ - 1
      · rw [← e, c]; exact ha
      · rw [← e]; exact aheadB_trans (h.srt.at (by omega) (by omega)) ha
  have hup : ∀ z ∈ out.drop at_, aheadB x z = true := by
    intro z hz
    obtain ⟨i, hi, e⟩ := mem_getD hz
    rw [List.length_drop] at hi
    have e2 : (out.drop at_).getD i aD = out.getD (at_ + i) aD := by simp [List.getD]
    rw [e2] at e
    rw [← e]
    exact hb _ (by omega) (by omega)
  have hsp : Srt (out.take at_ ++ out.drop at_) := by rw [List.take_append_drop]; exact h.srt
  unfold Srt at hsp
  rw [List.pairwise_append] at hsp
  refine ⟨?_, ?_, ?_⟩
  · unfold Srt
    rw [List.append_assoc, List.pairwise_append]
    refine ⟨hsp.1, ?_, ?_⟩
    · exact List.pairwise_cons.2 ⟨fun z hz => hup z (by simpa using hz), hsp.2.1⟩
    · intro a ha' b hb'
      rcases List.mem_append.1 hb' with hb' | hb'
      · rw [List.mem_singleton] at hb'
        rw [hb']; exact hlow a ha'
      · exact hsp.2.2 a ha' b hb'
  · intro z hz
    rcases List.mem_append.1 hz with hz | hz
    · rcases List.mem_append.1 hz with hz | hz
      · exact List.mem_append_left _ (h.sub z (List.mem_of_mem_take hz))
      · exact List.mem_append_right _ hz
    · exact List.mem_append_left _ (h.sub z (List.mem_of_mem_drop hz))
  · intro u hu
    rcases List.mem_append.1 hu with hu | hu
    · obtain ⟨z, hz, hzk⟩ := h.cov u hu
      refine ⟨z, ?_, hzk⟩
      rw [← List.take_append_drop at_ out] at hz
      rcases List.mem_append.1 hz with hz | hz
      · exact List.mem_append_left _ (List.mem_append_left _ hz)
      · exact List.mem_append_right _ hz
    · rw [List.mem_singleton] at hu
      subst hu
      exact ⟨u, List.mem_append_left _ (List.mem_append_right _ (by simp)), Key.refl u, Int.le_refl _⟩

end Go.Fw

namespace Go.Fw
open Go Go.Proofs

set_option maxHeartbeats 8000000 in
set_option maxRecDepth 20000 in
theorem compact0_c (xs : List Arc) (cap sp : Nat) (hl : xs.length ≤ 1000000) (hcap : xs.length ≤ cap) : Ct Try.prog 118 [.c (.sl 0 5 0 xs.length cap), .c (.fn 119 [])] [] [(0, .arr true 47 .arc xs sp)] 1
    (fun v s => ∃ rest, v = .c (.sl 0 5 0 (comp xs).length cap) ∧ s = ⟨[], [(0, .arr true 47 .arc (comp xs ++ rest) sp)], 1⟩ ∧ (comp xs).length + rest.length = xs.length) := by
  refine ctW Try.tyOk 8 [] Try.func118 rfl (by simp [SV.lt, SA.lt, SC.lt, arcV, fV]) (by simp) (fr := [(0, .c (.sl 0 5 0 xs.length cap)), (1, .c (.fn 119 []))]) rfl ?_
  repeat' (first | exact rfl | ((conv => whnf); first | ((first | refine qA (fun h => ?_) fun h => ?_ | refine qN (fun h => ?_) fun h => ?_ | refine qB (fun h => ?_) fun h => ?_ | refine qC (fun h => ?_) fun h => ?_) <;> try exact absurd h (by omega)) | refine qM (fun h => ?_) fun h => ?_ | refine oM (by (first | omega | (simp only [lenS, InI, nmin, EK.sz]; omega) | (simp only [lenS, InI, nmin, EK.sz] at *; omega))) ?_ | refine oM ?_ ?_ | refine bM ?_ ?_ | refine draw_of Try.mixed Try.tyOk 60 (by kernel_rfl) ?_))
  · (conv => whnf)
    have e := comp_short xs (by omega)
    exact ⟨[], [(0, .arr true 47 .arc xs sp)], 1, .c (.sl 0 5 0 xs.length cap), ⟨by rfl, trivial, by simp [eqFr, eqHp, eqV, eqA, eqC, eqO, eqCs, eqAs, look_cons, look, rn, EK.cast, EK.sz, eqCaps]⟩, by simp [eqV, eqA, eqC, rn, look], [], by rw [e], by rw [e, List.append_nil], by rw [e]; rfl⟩
  · (conv => whnf)
    refine loopI (fun k : Nat => ⟨[(0, .c (.sl 0 5 0 xs.length cap)), (1, .c (.fn 119 [])), (5, .i k)], [(0, .arr true 47 .arc xs sp)], 1⟩)
      (fun k => 1 ≤ k ∧ k ≤ xs.length ∧ comp (xs.take k) = xs.take k) (fun k => xs.length - k) 1 [] ⟨by rfl, ?_, ?_⟩ ⟨Nat.le_refl _, by omega, comp_one xs⟩ ?_
    · simp [eqFr, eqHp, eqV, eqA, eqC, eqO, eqCs, eqAs, look_cons, look, rn, EK.cast, EK.sz, eqCaps]
    · simp [eqFr, eqHp, eqV, eqA, eqC, eqO, eqCs, eqAs, look_cons, look, rn, EK.cast, EK.sz, eqCaps]
    · rintro k ⟨hk1, hk2, hk3⟩
      have e0 : 0 + (k : Int).toNat = k := by omega
      have e1 : 0 + ((k : Int) - 1).toNat = k - 1 := by omega
      repeat' (first | exact rfl | ((conv => whnf); first | ((first | refine qA (fun h => ?_) fun h => ?_ | refine qN (fun h => ?_) fun h => ?_ | refine qB (fun h => ?_) fun h => ?_ | refine qC (fun h => ?_) fun h => ?_) <;> try exact absurd h (by omega)) | refine qM (fun h => ?_) fun h => ?_ | refine oM (by (first | omega | (simp only [lenS, InI, nmin, EK.sz]; omega) | (simp only [lenS, InI, nmin, EK.sz] at *; omega))) ?_ | refine oM ?_ ?_ | refine bM ?_ ?_ | refine draw_of Try.mixed Try.tyOk 60 (by kernel_rfl) ?_))
      · (conv => whnf)
        have ecm : sameK (xs.getD k aD) (xs.getD (k - 1) aD) = decide (orderI (xs.getD (0 + (k : Int).toNat) EK.arc.dflt) (xs.getD (0 + ((k : Int) - 1).toNat) EK.arc.dflt) = 0) := by rw [e0, e1]; rfl
        refine callF (sorted2_c (xs.getD (0 + (k : Int).toNat) EK.arc.dflt) (xs.getD (0 + ((k : Int) - 1).toNat) EK.arc.dflt)) [] Try.call119 rfl (by simp [eqLs, eqL, eqO, eqC, eqCs, rn, renOf, look_cons, look, EK.cast]) (by simp [appN, ptrs, eqVL, eqV, eqA, eqC, eqCs, eqAs, eqCaps, EK.sz, rn, renOf, look_cons, look, arcV, fV]) (by simp [appN, ptrs, SV.lt, SA.lt, SC.lt, arcV, fV, lenN]) ?_
        rintro _ _ ⟨rfl, rfl⟩
        repeat' (first | exact rfl | ((conv => whnf); first | ((first | refine qA (fun h => ?_) fun h => ?_ | refine qN (fun h => ?_) fun h => ?_ | refine qB (fun h => ?_) fun h => ?_ | refine qC (fun h => ?_) fun h => ?_) <;> try exact absurd h (by omega)) | refine qM (fun h => ?_) fun h => ?_ | refine oM (by (first | omega | (simp only [lenS, InI, nmin, EK.sz]; omega) | (simp only [lenS, InI, nmin, EK.sz] at *; omega))) ?_ | refine oM ?_ ?_ | refine bM ?_ ?_ | refine draw_of Try.mixed Try.tyOk 60 (by kernel_rfl) ?_))
        · rw [decide_eq_true (by assumption)] at ecm
          (conv => whnf)
          refine loopI (fun y : Nat × Nat × List Arc => ⟨[(0, .c (.sl 0 5 0 xs.length cap)), (1, .c (.fn 119 [])), (5, .i y.1), (6, .c (.sl 0 5 k (xs.length - k) (cap - k))), (7, .i (y.2.1 - k : Nat))], [(0, .arr true 47 .arc y.2.2 sp)], 1⟩)
            (fun y => k + 1 ≤ y.2.1 ∧ CompIn xs y.1 y.2.1 y.2.2) (fun y => xs.length - y.2.1) (k, k + 1, xs) [] ⟨by rfl, ?_, ?_⟩ ⟨Nat.le_refl _, CompIn.start hk1 (by omega) hk3 ecm⟩ ?_
          · simp [eqFr, eqHp, eqV, eqA, eqC, eqO, eqCs, eqAs, look_cons, look, rn, EK.cast, EK.sz, eqCaps]
          · simp [eqFr, eqHp, eqV, eqA, eqC, eqO, eqCs, eqAs, look_cons, look, rn, EK.cast, EK.sz, eqCaps]
          · rintro ⟨p, n, ys⟩ ⟨hkn, hin⟩
            have hyl := hin.len
            have hpn := hin.kn
            have hnl := hin.nl
            have hp1 := hin.k1
            simp only at hkn hyl hpn hnl hp1 ⊢
            have f0 : k + ((n - k : Nat) : Int).toNat = n := by omega
            have f1 : k + (((n - k : Nat) : Int) - 1).toNat = n - 1 := by omega
            have f2 : 0 + (p : Int).toNat = p := by omega
            repeat' (first | exact rfl | ((conv => whnf); first | ((first | refine qA (fun h => ?_) fun h => ?_ | refine qN (fun h => ?_) fun h => ?_ | refine qB (fun h => ?_) fun h => ?_ | refine qC (fun h => ?_) fun h => ?_) <;> try exact absurd h (by omega)) | refine qM (fun h => ?_) fun h => ?_ | refine oM (by (first | omega | (simp only [lenS, InI, nmin, EK.sz]; omega) | (simp only [lenS, InI, nmin, EK.sz] at *; omega))) ?_ | refine oM ?_ ?_ | refine bM ?_ ?_ | refine draw_of Try.mixed Try.tyOk 60 (by kernel_rfl) ?_))
            · (conv => whnf)
              have hu0 := hin.un n (by simp only; omega)
              have hu1 := hin.un (n - 1) (by simp only; omega)
              simp only at hu0 hu1
              have ecm2 : sameK (xs.getD n aD) (xs.getD (n - 1) aD) = decide (orderI (ys.getD (k + ((n - k : Nat) : Int).toNat) EK.arc.dflt) (ys.getD (k + (((n - k : Nat) : Int) - 1).toNat) EK.arc.dflt) = 0) := by rw [f0, f1, ← hu0, ← hu1]; rfl
              refine callF (sorted2_c (ys.getD (k + ((n - k : Nat) : Int).toNat) EK.arc.dflt) (ys.getD (k + (((n - k : Nat) : Int) - 1).toNat) EK.arc.dflt)) [] Try.call119 rfl (by simp [eqLs, eqL, eqO, eqC, eqCs, rn, renOf, look_cons, look, EK.cast]) (by simp [appN, ptrs, eqVL, eqV, eqA, eqC, eqCs, eqAs, eqCaps, EK.sz, rn, renOf, look_cons, look, arcV, fV]) (by simp [appN, ptrs, SV.lt, SA.lt, SC.lt, arcV, fV, lenN]) ?_
              rintro _ _ ⟨rfl, rfl⟩
              repeat' (first | exact rfl | ((conv => whnf); first | ((first | refine qA (fun h => ?_) fun h => ?_ | refine qN (fun h => ?_) fun h => ?_ | refine qB (fun h => ?_) fun h => ?_ | refine qC (fun h => ?_) fun h => ?_) <;> try exact absurd h (by omega)) | refine qM (fun h => ?_) fun h => ?_ | refine oM (by (first | omega | (simp only [lenS, InI, nmin, EK.sz]; omega) | (simp only [lenS, InI, nmin, EK.sz] at *; omega))) ?_ | refine oM ?_ ?_ | refine bM ?_ ?_ | refine draw_of Try.mixed Try.tyOk 60 (by kernel_rfl) ?_))
              · rw [decide_eq_false (by assumption)] at ecm2
                have hu0' : ys.getD n EK.arc.dflt = xs.getD n aD := hu0
                (conv => whnf)
                refine ⟨(p + 1, n + 1, ys.set p (xs.getD n aD)), [], ⟨by rfl, ?_, ?_⟩, ⟨by simp only; omega, hin.put (by simp only; omega) ecm2⟩, by simp only; omega⟩
                · simp [eqFr, eqHp, eqV, eqA, eqC, eqO, eqCs, eqAs, look_cons, look, rn, EK.cast, EK.sz, eqCaps]
                  omega
                · simp only [f0, f2, hu0']
                  simp [eqFr, eqHp, eqV, eqA, eqC, eqO, eqCs, eqAs, look_cons, look, rn, EK.cast, EK.sz, eqCaps]
              · rw [decide_eq_true (by assumption)] at ecm2
                (conv => whnf)
                refine ⟨(p, n + 1, ys), [], ⟨by rfl, ?_, ?_⟩, ⟨by simp only; omega, hin.skip (by simp only; omega) ecm2⟩, by simp only; omega⟩
                · simp [eqFr, eqHp, eqV, eqA, eqC, eqO, eqCs, eqAs, look_cons, look, rn, EK.cast, EK.sz, eqCaps]
                  omega
                · simp [eqFr, eqHp, eqV, eqA, eqC, eqO, eqCs, eqAs, look_cons, look, rn, EK.cast, EK.sz, eqCaps]
            · (conv => whnf)
              have e : n = xs.length := by omega
              subst e
              obtain ⟨d1, d2⟩ := hin.done
              have d3 : ys.take p = comp xs := by
                have := hin.tk
                rw [List.take_length] at this
                exact this
              simp only at d1 d2
              refine clearX Try.tyOk rfl rfl rfl rfl (by rw [hyl]; omega) ?_
              generalize hz : (List.take _ ys ++ List.replicate _ _ ++ List.drop _ ys) = zs
              have hz2 : zs = comp xs ++ List.replicate (xs.length - p) aD := by
                have e3 : 0 + (p : Int).toNat = p := by omega
                have e4 : ((xs.length : Int) - p).toNat = xs.length - p := by omega
                rw [← hz, e3, e4, d3, List.drop_of_length_le (by omega), List.append_nil]
                rfl
              clear hz
              subst hz2
              repeat' (first | exact rfl | ((conv => whnf); first | ((first | refine qA (fun h => ?_) fun h => ?_ | refine qN (fun h => ?_) fun h => ?_ | refine qB (fun h => ?_) fun h => ?_ | refine qC (fun h => ?_) fun h => ?_) <;> try exact absurd h (by omega)) | refine qM (fun h => ?_) fun h => ?_ | refine oM (by (first | omega | (simp only [lenS, InI, nmin, EK.sz]; omega) | (simp only [lenS, InI, nmin, EK.sz] at *; omega))) ?_ | refine oM ?_ ?_ | refine bM ?_ ?_ | refine draw_of Try.mixed Try.tyOk 60 (by kernel_rfl) ?_))
              (conv => whnf)
              exact ⟨[], [(0, .arr true 47 .arc (comp xs ++ List.replicate (xs.length - p) aD) sp)], 1, .c (.sl 0 5 0 (comp xs).length cap), ⟨by rfl, trivial, by simp [eqFr, eqHp, eqV, eqA, eqC, eqO, eqCs, eqAs, look_cons, look, rn, EK.cast, EK.sz, eqCaps]⟩, by rw [d1]; simp [eqV, eqA, eqC, rn, look], List.replicate (xs.length - p) aD, rfl, rfl, by rw [d1, List.length_replicate]; omega⟩
        · rw [decide_eq_false (by assumption)] at ecm
          (conv => whnf)
          refine ⟨k + 1, [], ⟨by rfl, ?_, ?_⟩, ⟨by omega, by omega, by rw [comp_take xs k hk1 (by omega), ecm, hk3, if_neg (by simp), take_succ_getD xs k aD (by omega)]⟩, by omega⟩
          · simp [eqFr, eqHp, eqV, eqA, eqC, eqO, eqCs, eqAs, look_cons, look, rn, EK.cast, EK.sz, eqCaps]
          · simp [eqFr, eqHp, eqV, eqA, eqC, eqO, eqCs, eqAs, look_cons, look, rn, EK.cast, EK.sz, eqCaps]
      · (conv => whnf)
        have e : k = xs.length := by omega
        subst e
        rw [List.take_length] at hk3
        exact ⟨[], [(0, .arr true 47 .arc xs sp)], 1, .c (.sl 0 5 0 xs.length cap), ⟨by rfl, trivial, by simp [eqFr, eqHp, eqV, eqA, eqC, eqO, eqCs, eqAs, look_cons, look, rn, EK.cast, EK.sz, eqCaps]⟩, by simp [eqV, eqA, eqC, rn, look], [], by rw [hk3], by rw [hk3, List.append_nil], by rw [hk3]; rfl⟩
theorem compact_c (xs : List Arc) (cap sp : Nat) (hl : xs.length ≤ 1000000) (hcap : xs.length ≤ cap) : Ct Try.prog 118 [.c (.sl 0 5 0 xs.length cap), .c (.fn 119 [])] [] [(0, .arr true 47 .arc xs sp)] 1
    (fun v s => ∃ sp', v = .c (.sl 0 5 0 (comp xs).length cap) ∧ s = ⟨[], [(0, .arr true 47 .arc (comp xs) sp')], 1⟩ ∧ xs.length + sp = (comp xs).length + sp') := by
  refine (compact0_c xs cap sp hl hcap).short ?_
  rintro v s ⟨rest, rfl, rfl, hr⟩
  exact ⟨0, 47, sp, .arc, comp xs, rest, rfl, rest.length + sp, rfl, rfl, by omega⟩

set_option maxHeartbeats 8000000 in
set_option maxRecDepth 20000 in
theorem sorted_c (xs : List Arc) (cap sp : Nat) (hl : xs.length ≤ 1000000) (hcap : xs.length ≤ cap) : Ct Try.prog 90 [.c (.sl 0 5 0 xs.length cap)] [] [(0, .arr true 47 .arc xs sp)] 1
    (fun v s => ∃ zs sp', v = .c (.sl 0 5 0 zs.length cap) ∧ s = ⟨[], [(0, .arr true 47 .arc zs sp')], 1⟩ ∧ xs.length + sp = zs.length + sp' ∧ SortIs xs zs) := by
  refine ctW Try.tyOk 3 [] Try.func90 rfl (by simp [SV.lt, SA.lt, SC.lt, arcV, fV]) (by simp) (fr := [(0, .c (.sl 0 5 0 xs.length cap))]) rfl ?_
  repeat' (first | exact rfl | ((conv => whnf); first | ((first | refine qA (fun h => ?_) fun h => ?_ | refine qN (fun h => ?_) fun h => ?_ | refine qB (fun h => ?_) fun h => ?_ | refine qC (fun h => ?_) fun h => ?_) <;> try exact absurd h (by omega)) | refine qM (fun h => ?_) fun h => ?_ | refine oM (by (first | omega | (simp only [lenS, InI, nmin, EK.sz]; omega) | (simp only [lenS, InI, nmin, EK.sz] at *; omega))) ?_ | refine oM ?_ ?_ | refine bM ?_ ?_ | refine draw_of Try.mixed Try.tyOk 60 (by kernel_rfl) ?_))
  (conv => whnf)
  refine callF (sortStable_c xs cap sp hl) [0] Try.call114 rfl (by simp [eqLs, eqL, eqO, eqC, eqCs, rn, renOf, look_cons, look, EK.cast]) (by simp [appN, ptrs, eqVL, eqV, eqA, eqC, eqCs, eqAs, eqCaps, EK.sz, rn, renOf, look_cons, look, arcV, fV]) (by simp [appN, ptrs, SV.lt, SA.lt, SC.lt, arcV, fV, lenN]) ?_
  rintro _ _ ⟨ys, rfl, rfl, hm, hs⟩
  have hyl := hm.len
  repeat' (first | exact rfl | ((conv => whnf); first | ((first | refine qA (fun h => ?_) fun h => ?_ | refine qN (fun h => ?_) fun h => ?_ | refine qB (fun h => ?_) fun h => ?_ | refine qC (fun h => ?_) fun h => ?_) <;> try exact absurd h (by omega)) | refine qM (fun h => ?_) fun h => ?_ | refine oM (by (first | omega | (simp only [lenS, InI, nmin, EK.sz]; omega) | (simp only [lenS, InI, nmin, EK.sz] at *; omega))) ?_ | refine oM ?_ ?_ | refine bM ?_ ?_ | refine draw_of Try.mixed Try.tyOk 60 (by kernel_rfl) ?_))
  (conv => whnf)
  refine callF (compact_c ys cap sp (by omega) (by omega)) [0] Try.call118 rfl (by simp [eqLs, eqL, eqO, eqC, eqCs, rn, renOf, look_cons, look, EK.cast, hyl]) (by simp [appN, ptrs, eqVL, eqV, eqA, eqC, eqCs, eqAs, eqCaps, EK.sz, rn, renOf, look_cons, look, arcV, fV, hyl]) (by simp [appN, ptrs, SV.lt, SA.lt, SC.lt, arcV, fV, lenN]) ?_
  rintro _ _ ⟨sp', rfl, rfl, hsp⟩
  repeat' (first | exact rfl | ((conv => whnf); first | ((first | refine qA (fun h => ?_) fun h => ?_ | refine qN (fun h => ?_) fun h => ?_ | refine qB (fun h => ?_) fun h => ?_ | refine qC (fun h => ?_) fun h => ?_) <;> try exact absurd h (by omega)) | refine qM (fun h => ?_) fun h => ?_ | refine oM (by (first | omega | (simp only [lenS, InI, nmin, EK.sz]; omega) | (simp only [lenS, InI, nmin, EK.sz] at *; omega))) ?_ | refine oM ?_ ?_ | refine bM ?_ ?_ | refine draw_of Try.mixed Try.tyOk 60 (by kernel_rfl) ?_))
  (conv => whnf)
  exact ⟨[], [(0, .arr true 47 .arc (comp ys) sp')], 1, .c (.sl 0 5 0 (comp ys).length cap), ⟨by rfl, trivial, by simp [eqFr, eqHp, eqV, eqA, eqC, eqO, eqCs, eqAs, look_cons, look, rn, EK.cast, EK.sz, eqCaps]⟩, by simp [eqV, eqA, eqC, rn, look], comp ys, sp', rfl, rfl, by omega, ys, hm.perm, hs, rfl⟩
end Go.Fw

namespace Go.Fw
open Go Go.Proofs

end Go.Fw

/-
  Turned: labels swapped, or the one for the other; twice swapped it is as it was.
-/
namespace Go.Fw
open Go

def invA (a : Arc) : Arc := ⟨a.f, a.o, a.i, a.t, a.w⟩
def prjA (side : Int) (a : Arc) : Arc := if side = 1 then ⟨a.f, a.i, a.i, a.t, a.w⟩ else ⟨a.f, a.o, a.o, a.t, a.w⟩
/-- Turned as R's TurnedOf does. -/
def turnA (side : Int) (a : Arc) : Arc := if side = 0 then invA a else if side = 1 then ⟨a.f, a.i, a.i, a.t, a.w⟩ else if side = 2 then ⟨a.f, a.o, a.o, a.t, a.w⟩ else a

theorem Srt.nodup {l : List Arc} (h : Srt l) : l.Nodup := by
  unfold Srt at h
  exact h.imp fun {a b} hab e => by rw [e, aheadB_irr] at hab; cases hab

theorem nodup_len {α : Type} [DecidableEq α] : ∀ (l m : List α), l.Nodup → (∀ a ∈ l, a ∈ m) → l.length ≤ m.length
  | [], m, _, _ => Nat.zero_le _
  | a :: l, m, hn, h => by
    rw [List.nodup_cons] at hn
    have ha := h a (by simp)
    have := nodup_len l (m.erase a) hn.2 (fun b hb => (List.mem_erase_of_ne (by rintro rfl; exact hn.1 hb)).2 (h b (List.mem_cons_of_mem _ hb)))
    rw [List.length_erase_of_mem ha] at this
    have : 0 < m.length := List.length_pos_of_mem ha
    simp only [List.length_cons]
    omega

theorem IsNorm.len {xs zs : List Arc} (h : IsNorm xs zs) : zs.length ≤ xs.length := nodup_len zs xs h.srt.nodup h.sub

end Go.Fw

namespace Go.Fw
open Go Go.Proofs

theorem invert1_c (a : Arc) : Ct Try.prog 71 [arcV a] [] [] 0 (Is 0 (arcV (invA a))) := by
  refine ctW Try.tyOk 3 [] Try.func71 rfl (by simp [SV.lt, SA.lt, SC.lt, arcV, fV]) (by simp) (fr := [(0, arcV a)]) rfl ?_
  repeat' (first | exact rfl | ((conv => whnf); first | ((first | refine qA (fun h => ?_) fun h => ?_ | refine qN (fun h => ?_) fun h => ?_ | refine qB (fun h => ?_) fun h => ?_ | refine qC (fun h => ?_) fun h => ?_) <;> try exact absurd h (by omega)) | refine qM (fun h => ?_) fun h => ?_ | refine oM (by (first | omega | (simp only [lenS, InI, nmin, EK.sz]; omega) | (simp only [lenS, InI, nmin, EK.sz] at *; omega))) ?_ | refine oM ?_ ?_ | refine bM ?_ ?_ | refine draw_of Try.mixed Try.tyOk 60 (by kernel_rfl) ?_))
  (conv => whnf)
  refine Back.is ?_
  simp [eqV, eqA, eqC, eqCs, eqAs, arcV, invA]

/-- What is mapped and sorted. -/
def MapPost (F : TF) (f : Arc → Arc) (hp : List (Nat × SO)) (n : Nat) (v : SV) (s : S) : Prop := ∃ zs sp sq, v = .a (.agg [.i F.st, .i F.start, .sl n 1 0 F.fin.length (F.fin.length + sp), .sl (n + 1) 5 0 zs.length (zs.length + sq)]) ∧ s = ⟨[], hp ++ [(n, .arr true 3 .int F.fin sp), (n + 1, .arr true 47 .arc zs sq)], n + 2⟩ ∧ IsNorm (F.arcs.map f) zs

set_option maxHeartbeats 8000000 in
set_option maxRecDepth 20000 in
theorem mappedI_c (F : TF) (hF : FOk F) : Ct Try.prog 70 [fV F, .c (.fn 71 [])] [] (hpF F) 2 (MapPost F invA [] 2) := by
  have hfl := hF.finl
  have hal := hF.arcl
  have hst := hF.st
  refine ctW Try.tyOk 8 [17, 18, 19] Try.func70 rfl (by simp [SV.lt, SA.lt, SC.lt, arcV, fV]) (by simp) (fr := [(0, fV F), (1, .c (.fn 71 []))]) rfl ?_
  repeat' (first | exact rfl | ((conv => whnf); first | ((first | refine qA (fun h => ?_) fun h => ?_ | refine qN (fun h => ?_) fun h => ?_ | refine qB (fun h => ?_) fun h => ?_ | refine qC (fun h => ?_) fun h => ?_) <;> try exact absurd h (by omega)) | refine qM (fun h => ?_) fun h => ?_ | refine oM (by (first | omega | (simp only [lenS, InI, nmin, EK.sz]; omega) | (simp only [lenS, InI, nmin, EK.sz] at *; omega))) ?_ | refine oM ?_ ?_ | refine bM ?_ ?_))
  (conv => whnf)
  refine drawCut (fun sp : Nat => ⟨[(1, .c (.fn 71 [])), (2, .c (.ptr 2 0)), (4, .c (.ptr 3 0)), (5, .c (.ptr 5 0))],
    [(0, .arr false 3 .int F.fin 0), (1, .arr false 47 .arc F.arcs 0), (2, .box 25 (fCells F)), (3, .box 25 [.i 0, .i 0, .v (.slice none 0 0), .v (.slice none 0 0)]), (4, .arr true 3 .int F.fin sp), (5, .box 25 [.i F.st, .i F.start, .sl 4 1 0 F.fin.length (F.fin.length + sp), .v (.slice none 0 0)])], 6⟩) (fun _ => True) ?_ ?_
  · repeat' (first | exact rfl | ((conv => whnf); first | ((first | refine qA (fun h => ?_) fun h => ?_ | refine qN (fun h => ?_) fun h => ?_ | refine qB (fun h => ?_) fun h => ?_ | refine qC (fun h => ?_) fun h => ?_) <;> try exact absurd h (by omega)) | refine qM (fun h => ?_) fun h => ?_ | refine oM (by (first | omega | (simp only [lenS, InI, nmin, EK.sz]; omega) | (simp only [lenS, InI, nmin, EK.sz] at *; omega))) ?_ | refine oM ?_ ?_ | refine bM ?_ ?_ | refine draw_of Try.mixed Try.tyOk 60 (by kernel_rfl) ?_))
    all_goals
      (conv => whnf)
      refine callF (clone_c F.fin F.capF (by omega)) [0] Try.call104 rfl (by simp [eqLs, eqL, eqO, eqC, eqCs, rn, renOf, look_cons, look, EK.cast]) (by simp [appN, ptrs, eqVL, eqV, eqA, eqC, eqCs, eqAs, eqCaps, EK.sz, rn, renOf, look_cons, look, arcV, fV]) (by simp [appN, ptrs, SV.lt, SA.lt, SC.lt, arcV, fV, lenN]) ?_
      rintro _ _ ⟨sp, rfl, rfl⟩
      repeat' (first | exact rfl | ((conv => whnf); first | ((first | refine qA (fun h => ?_) fun h => ?_ | refine qN (fun h => ?_) fun h => ?_ | refine qB (fun h => ?_) fun h => ?_ | refine qC (fun h => ?_) fun h => ?_) <;> try exact absurd h (by omega)) | refine qM (fun h => ?_) fun h => ?_ | refine oM (by (first | omega | (simp only [lenS, InI, nmin, EK.sz]; omega) | (simp only [lenS, InI, nmin, EK.sz] at *; omega))) ?_ | refine oM ?_ ?_ | refine bM ?_ ?_ | refine draw_of Try.mixed Try.tyOk 60 (by kernel_rfl) ?_))
      (conv => whnf)
    · refine ⟨sp, [], ⟨by rfl, ?_, ?_⟩, trivial⟩
      · simp [eqFr, eqHp, eqV, eqA, eqC, eqO, eqCs, eqAs, look_cons, look, rn, EK.cast, EK.sz, eqCaps]
      · simp [eqFr, eqHp, eqV, eqA, eqC, eqO, eqCs, eqAs, look_cons, look, rn, EK.cast, EK.sz, eqCaps, fCells]
    · refine ⟨sp, [(4, some 5), (5, some 4)], ⟨by rfl, ?_, ?_⟩, trivial⟩
      · simp [eqFr, eqHp, eqV, eqA, eqC, eqO, eqCs, eqAs, look_cons, look, rn, EK.cast, EK.sz, eqCaps]
      · simp [eqFr, eqHp, eqV, eqA, eqC, eqO, eqCs, eqAs, look_cons, look, rn, EK.cast, EK.sz, eqCaps, fCells]
  · intro sp _
    repeat' (first | exact rfl | ((conv => whnf); first | ((first | refine qA (fun h => ?_) fun h => ?_ | refine qN (fun h => ?_) fun h => ?_ | refine qB (fun h => ?_) fun h => ?_ | refine qC (fun h => ?_) fun h => ?_) <;> try exact absurd h (by omega)) | refine qM (fun h => ?_) fun h => ?_ | refine oM (by (first | omega | (simp only [lenS, InI, nmin, EK.sz]; omega) | (simp only [lenS, InI, nmin, EK.sz] at *; omega))) ?_ | refine oM ?_ ?_ | refine bM ?_ ?_ | refine draw_of Try.mixed Try.tyOk 60 (by kernel_rfl) ?_))
    (conv => whnf)
    refine loopI (fun x : Nat × Nat => ⟨[(1, .c (.fn 71 [])), (2, .c (.ptr 2 0)), (4, .c (.ptr 3 0)), (5, .c (.ptr 5 0)), (17, .c (.sl 1 5 0 F.arcs.length F.capA)), (18, .i F.arcs.length), (19, .i x.1)],
      [(0, .arr false 3 .int F.fin 0), (1, .arr false 47 .arc F.arcs 0), (2, .box 25 (fCells F)), (3, .box 25 [.i 0, .i 0, .v (.slice none 0 0), .v (.slice none 0 0)]), (4, .arr true 3 .int F.fin sp), (5, .box 25 [.i F.st, .i F.start, .sl 4 1 0 F.fin.length (F.fin.length + sp), .sl 6 5 0 ((F.arcs.take x.1).map invA).length (((F.arcs.take x.1).map invA).length + x.2)]), (6, .arr true 47 .arc ((F.arcs.take x.1).map invA) x.2)], 7⟩)
      (fun x => x.1 ≤ F.arcs.length) (fun x => F.arcs.length - x.1) (0, 0) [(6, none)] ⟨by rfl, ?_, ?_⟩ (Nat.zero_le _) ?_
    · simp [eqFr, eqHp, eqV, eqA, eqC, eqO, eqCs, eqAs, look_cons, look, rn, EK.cast, EK.sz, eqCaps]
    · simp [eqFr, eqHp, eqV, eqA, eqC, eqO, eqCs, eqAs, look_cons, look, rn, EK.cast, EK.sz, eqCaps, fCells, nilO]
    · rintro ⟨k, sq⟩ hk
      simp only at hk ⊢
      have hln : ((F.arcs.take k).map invA).length = k := by rw [List.length_map, List.length_take]; omega
      have hsn : k < F.arcs.length → (F.arcs.take (k + 1)).map invA = (F.arcs.take k).map invA ++ [invA (F.arcs.getD k aD)] := fun h => by
        rw [take_succ_getD F.arcs k aD h, List.map_append]; rfl
      generalize hpp : (F.arcs.take k).map invA = pl at hsn hln ⊢
      have e0 : 0 + (k : Int).toNat = k := by omega
      repeat' (first | exact rfl | ((conv => whnf); first | ((first | refine qA (fun h => ?_) fun h => ?_ | refine qN (fun h => ?_) fun h => ?_ | refine qB (fun h => ?_) fun h => ?_ | refine qC (fun h => ?_) fun h => ?_) <;> try exact absurd h (by omega)) | refine qM (fun h => ?_) fun h => ?_ | refine oM (by (first | omega | (simp only [lenS, InI, nmin, EK.sz]; omega) | (simp only [lenS, InI, nmin, EK.sz] at *; omega))) ?_ | refine oM ?_ ?_ | refine bM ?_ ?_ | refine draw_of Try.mixed Try.tyOk 60 (by kernel_rfl) ?_))
      · (conv => whnf)
        refine callF (invert1_c (F.arcs.getD (0 + (k : Int).toNat) EK.arc.dflt)) [] Try.call71 rfl (by simp [eqLs, eqL, eqO, eqC, eqCs, rn, renOf, look_cons, look, EK.cast]) (by simp [appN, ptrs, eqVL, eqV, eqA, eqC, eqCs, eqAs, eqCaps, EK.sz, rn, renOf, look_cons, look, arcV, fV]) (by simp [appN, ptrs, SV.lt, SA.lt, SC.lt, arcV, fV, lenN]) ?_
        rintro _ _ ⟨rfl, rfl⟩
        repeat' (first | exact rfl | ((conv => whnf); first | ((first | refine qA (fun h => ?_) fun h => ?_ | refine qN (fun h => ?_) fun h => ?_ | refine qB (fun h => ?_) fun h => ?_ | refine qC (fun h => ?_) fun h => ?_) <;> try exact absurd h (by omega)) | refine qM (fun h => ?_) fun h => ?_ | refine oM (by (first | omega | (simp only [lenS, InI, nmin, EK.sz]; omega) | (simp only [lenS, InI, nmin, EK.sz] at *; omega))) ?_ | refine oM ?_ ?_ | refine bM ?_ ?_ | refine draw_of Try.mixed Try.tyOk 60 (by kernel_rfl) ?_ | intro _))
        (conv => whnf)
        rename_i q
        replace hsn := hsn (by omega)
        rw [← e0] at hsn
        refine ⟨(k + 1, q), [(6, some 9)], ⟨by rfl, ?_, ?_⟩, by simp only; omega, by simp only; omega⟩
        · simp [eqFr, eqHp, eqV, eqA, eqC, eqO, eqCs, eqAs, look_cons, look, rn, EK.cast, EK.sz, eqCaps]
        · rw [e0] at hsn
          simp [eqFr, eqHp, eqV, eqA, eqC, eqO, eqCs, eqAs, look_cons, look, rn, EK.cast, EK.sz, eqCaps, fCells, hsn, EK.dflt]
          exact (app_one pl _ _ rfl).symm
      · have e : F.arcs.take k = F.arcs := List.take_of_length_le (by omega)
        rw [e] at hpp
        subst hpp
        clear hsn
        repeat' (first | exact rfl | ((conv => whnf); first | ((first | refine qA (fun h => ?_) fun h => ?_ | refine qN (fun h => ?_) fun h => ?_ | refine qB (fun h => ?_) fun h => ?_ | refine qC (fun h => ?_) fun h => ?_) <;> try exact absurd h (by omega)) | refine qM (fun h => ?_) fun h => ?_ | refine oM (by (first | omega | (simp only [lenS, InI, nmin, EK.sz]; omega) | (simp only [lenS, InI, nmin, EK.sz] at *; omega))) ?_ | refine oM ?_ ?_ | refine bM ?_ ?_ | refine draw_of Try.mixed Try.tyOk 60 (by kernel_rfl) ?_))
        (conv => whnf)
        refine callF (sorted_c (F.arcs.map invA) ((F.arcs.map invA).length + sq) sq (by omega) (by omega)) [6] Try.call90 rfl (by simp [eqLs, eqL, eqO, eqC, eqCs, rn, renOf, look_cons, look, EK.cast]) (by simp [appN, ptrs, eqVL, eqV, eqA, eqC, eqCs, eqAs, eqCaps, EK.sz, rn, renOf, look_cons, look, arcV, fV]) (by simp [appN, ptrs, SV.lt, SA.lt, SC.lt, arcV, fV, lenN]) ?_
        rintro _ _ ⟨zs, sq', rfl, rfl, hzl, hso⟩
        repeat' (first | exact rfl | ((conv => whnf); first | ((first | refine qA (fun h => ?_) fun h => ?_ | refine qN (fun h => ?_) fun h => ?_ | refine qB (fun h => ?_) fun h => ?_ | refine qC (fun h => ?_) fun h => ?_) <;> try exact absurd h (by omega)) | refine qM (fun h => ?_) fun h => ?_ | refine oM (by (first | omega | (simp only [lenS, InI, nmin, EK.sz]; omega) | (simp only [lenS, InI, nmin, EK.sz] at *; omega))) ?_ | refine oM ?_ ?_ | refine bM ?_ ?_ | refine draw_of Try.mixed Try.tyOk 60 (by kernel_rfl) ?_))
        (conv => whnf)
        rw [hzl]
        exact ⟨[(2, some 4), (3, some 6)], [(2, .arr true 3 .int F.fin sp), (3, .arr true 47 .arc zs sq')], 4, .a (.agg [.i F.st, .i F.start, .sl 2 1 0 F.fin.length (F.fin.length + sp), .sl 3 5 0 zs.length (zs.length + sq')]), ⟨by rfl, trivial, by simp [eqFr, eqHp, eqV, eqA, eqC, eqO, eqCs, eqAs, look_cons, look, rn, EK.cast, EK.sz, eqCaps]⟩, by simp [eqV, eqA, eqAs, eqC, eqCs, rn, look, look_cons, EK.sz], zs, sp, sq', rfl, rfl, hso.norm⟩
end Go.Fw

namespace Go.Fw
open Go Go.Proofs

/-- Turned, and no error. -/
def TurnPost (F : TF) (f : Arc → Arc) (v : SV) (s : S) : Prop := ∃ zs sp sq, v = .tup [.agg [.i F.st, .i F.start, .sl 2 1 0 F.fin.length (F.fin.length + sp), .sl 3 5 0 zs.length (zs.length + sq)], .c (.i 0)] ∧ s = ⟨[], [(2, .arr true 3 .int F.fin sp), (3, .arr true 47 .arc zs sq)], 4⟩ ∧ IsNorm (F.arcs.map f) zs
/-- No transducer, and an error. -/
abbrev noT (e : Int) : SV := .tup [.agg [.i 0, .i 0, .v (.slice none 0 0), .v (.slice none 0 0)], .c (.i e)]

set_option maxHeartbeats 4000000 in
set_option maxRecDepth 20000 in
theorem invert_ok (F : TF) (hl : F.fin.length ≤ 9223372036854775807) (h : fstE F = 0) : Ct Try.prog 27 [fV F] [] (hpF F) 2 (TurnPost F invA) := by
  have hF := fstE_ok h
  refine ctW Try.tyOk 5 [] Try.func27 rfl (by simp [SV.lt, SA.lt, SC.lt, arcV, fV]) (by simp) (fr := [(0, fV F)]) rfl ?_
  repeat' (first | exact rfl | ((conv => whnf); first | ((first | refine qA (fun h => ?_) fun h => ?_ | refine qN (fun h => ?_) fun h => ?_ | refine qB (fun h => ?_) fun h => ?_ | refine qC (fun h => ?_) fun h => ?_) <;> try exact absurd h (by omega)) | refine qM (fun h => ?_) fun h => ?_ | refine oM (by (first | omega | (simp only [lenS, InI, nmin, EK.sz]; omega) | (simp only [lenS, InI, nmin, EK.sz] at *; omega))) ?_ | refine oM ?_ ?_ | refine bM ?_ ?_ | refine draw_of Try.mixed Try.tyOk 60 (by kernel_rfl) ?_))
  refine callI (check_c F hl) [0, 1] Try.call60 rfl (by simp [eqLs, eqL, eqO, eqC, eqCs, rn, renOf, look_cons, look, EK.cast]) (by simp [appN, ptrs, eqVL, eqV, eqA, eqC, eqCs, eqAs, eqCaps, EK.sz, rn, renOf, look_cons, look, arcV, fV]) (by simp [appN, ptrs, SV.lt, SA.lt, SC.lt, arcV, fV]) ?_
  repeat' (first | exact rfl | ((conv => whnf); first | ((first | refine qA (fun h => ?_) fun h => ?_ | refine qN (fun h => ?_) fun h => ?_ | refine qB (fun h => ?_) fun h => ?_ | refine qC (fun h => ?_) fun h => ?_) <;> try exact absurd h (by omega)) | refine qM (fun h => ?_) fun h => ?_ | refine oM (by (first | omega | (simp only [lenS, InI, nmin, EK.sz]; omega) | (simp only [lenS, InI, nmin, EK.sz] at *; omega))) ?_ | refine oM ?_ ?_ | refine bM ?_ ?_ | refine draw_of Try.mixed Try.tyOk 60 (by kernel_rfl) ?_))
  (conv => whnf)
  refine callF (mappedI_c F hF) [0, 1] Try.call70 rfl (by simp [eqLs, eqL, eqO, eqC, eqCs, rn, renOf, look_cons, look, EK.cast]) (by simp [appN, ptrs, eqVL, eqV, eqA, eqC, eqCs, eqAs, eqCaps, EK.sz, rn, renOf, look_cons, look, arcV, fV]) (by simp [appN, ptrs, SV.lt, SA.lt, SC.lt, arcV, fV, lenN]) ?_
  rintro _ _ ⟨zs, sp, sq, rfl, rfl, hz⟩
  repeat' (first | exact rfl | ((conv => whnf); first | ((first | refine qA (fun h => ?_) fun h => ?_ | refine qN (fun h => ?_) fun h => ?_ | refine qB (fun h => ?_) fun h => ?_ | refine qC (fun h => ?_) fun h => ?_) <;> try exact absurd h (by omega)) | refine qM (fun h => ?_) fun h => ?_ | refine oM (by (first | omega | (simp only [lenS, InI, nmin, EK.sz]; omega) | (simp only [lenS, InI, nmin, EK.sz] at *; omega))) ?_ | refine oM ?_ ?_ | refine bM ?_ ?_ | refine draw_of Try.mixed Try.tyOk 60 (by kernel_rfl) ?_))
  (conv => whnf)
  exact ⟨[(2, some 4), (3, some 5)], [(2, .arr true 3 .int F.fin sp), (3, .arr true 47 .arc zs sq)], 4, .tup [.agg [.i F.st, .i F.start, .sl 2 1 0 F.fin.length (F.fin.length + sp), .sl 3 5 0 zs.length (zs.length + sq)], .c (.i 0)], ⟨by rfl, trivial, by simp [eqFr, eqHp, eqV, eqA, eqC, eqO, eqCs, eqAs, look_cons, look, rn, EK.cast, EK.sz, eqCaps]⟩, by simp [eqV, eqA, eqAs, eqC, eqCs, rn, look, look_cons, EK.sz], zs, sp, sq, rfl, rfl, hz⟩

end Go.Fw

namespace Go.Fw
open Go Go.Proofs

end Go.Fw

/-
  Joined: either of two, one behind the other, again and again: the ways of what is joined.
-/
namespace Go.Fw
open Go

def shA (k : Int) (a : Arc) : Arc := ⟨a.f + k, a.i, a.o, a.t + k, a.w⟩
def silA (f t w : Int) : Arc := ⟨f, 0, 0, t, w⟩
/-- Silent arcs from the ends to a state. -/
def endsL (far to : Int) (fin : List Int) : Nat → List Arc
  | 0 => []
  | k + 1 => endsL far to fin k ++ (if fin.getD k 0 = -1 then [] else [silA (far + k) to (fin.getD k 0)])

/-- Normal: the ways are the same, but for what weighs more. -/
theorem IsNorm.way {xs zs : List Arc} (h : IsNorm xs zs) {s t : Int} {u v : List Int} {c : Int} (hw : Way xs s u v t c) : ∃ d, d ≤ c ∧ Way zs s u v t d := by
  induction hw with
  | nil s => exact ⟨0, Int.le_refl _, .nil s⟩
  | @cons a u v t c ha h2 ih =>
    obtain ⟨d, hd, hw⟩ := ih
    obtain ⟨z, hz, ⟨k1, k2, k3, k4⟩, hwz⟩ := h.cov a ha
    refine ⟨z.w + d, by omega, ?_⟩
    rw [← k1, ← k2, ← k3]
    rw [← k4] at hw
    exact .cons hz hw

/-- Costs of words over raw arcs. -/
def WtL (L : List Arc) (start : Int) (fin : List Int) (u v : List Int) (c : Int) : Prop := ∃ t d, Way L start u v t d ∧ fin.getD t.toNat 0 ≠ -1 ∧ c = d + fin.getD t.toNat 0

theorem IsNorm.min {xs : List Arc} {X : TF} (h : IsNorm xs X.arcs) {u v : List Int} {n : Int} (hn : MinOf (Wt X u v) n) : MinOf (WtL xs X.start X.fin u v) n := by
  have hup : ∀ c, WtL xs X.start X.fin u v c → ∃ d, d ≤ c ∧ Wt X u v d := by
    rintro c ⟨t, d, h1, h2, rfl⟩
    obtain ⟨e, he, hw⟩ := h.way h1
    exact ⟨e + X.fin.getD t.toNat 0, by omega, t, e, hw, h2, rfl⟩
  have hdn : ∀ c, Wt X u v c → WtL xs X.start X.fin u v c := by
    rintro c ⟨t, d, h1, h2, rfl⟩
    exact ⟨t, d, h1.mono h.sub, h2, rfl⟩
  rcases hn with ⟨rfl, h1⟩ | ⟨h0, h1, h2⟩
  · refine .inl ⟨rfl, fun c hc => ?_⟩
    obtain ⟨d, _, hd⟩ := hup c hc
    exact h1 d hd
  · refine .inr ⟨h0, hdn n h1, fun c hc => ?_⟩
    obtain ⟨d, hd, hw⟩ := hup c hc
    have := h2 d hw
    omega

theorem MinOf.cong {P Q : Int → Prop} {n : Int} (h : MinOf P n) (hpq : ∀ c, P c ↔ Q c) : MinOf Q n := by
  rcases h with ⟨rfl, h1⟩ | ⟨h0, h1, h2⟩
  · exact .inl ⟨rfl, fun c hc => h1 c ((hpq c).2 hc)⟩
  · exact .inr ⟨h0, (hpq n).1 h1, fun c hc => h2 c ((hpq c).2 hc)⟩

/-- The less of two. -/
theorem MinOf.or {P Q : Int → Prop} {m n : Int} (hm : MinOf P m) (hn : MinOf Q n) : MinOf (fun c => P c ∨ Q c) (less m n) := by
  unfold less
  rcases hm with ⟨rfl, h1⟩ | ⟨h0, h1, h2⟩
  · rw [if_pos (by omega)]
    exact hn.cong fun c => ⟨.inr, fun h => h.elim (fun h => absurd h (h1 c)) id⟩
  · rw [if_neg (by omega)]
    rcases hn with ⟨rfl, g1⟩ | ⟨g0, g1, g2⟩
    · rw [if_pos (.inl (by omega))]
      exact .inr ⟨h0, .inl h1, fun c hc => hc.elim (h2 c) fun h => absurd h (g1 c)⟩
    · split
      · refine .inr ⟨h0, .inl h1, fun c hc => hc.elim (h2 c) fun h => ?_⟩
        have := g2 c h
        omega
      · refine .inr ⟨g0, .inr g1, fun c hc => hc.elim (fun h => ?_) (g2 c)⟩
        have := h2 c h
        omega

/-- One and then the other. -/
theorem MinOf.add {P Q : Int → Prop} {m n : Int} (hm : MinOf P m) (hn : MinOf Q n) : MinOf (fun c => ∃ a b, P a ∧ Q b ∧ c = a + b) (plus m n) := by
  unfold plus
  rcases hm with ⟨rfl, h1⟩ | ⟨h0, h1, h2⟩
  · rw [if_pos (.inl (by omega))]
    exact .inl ⟨rfl, fun c ⟨a, b, ha, _⟩ => h1 a ha⟩
  · rcases hn with ⟨rfl, g1⟩ | ⟨g0, g1, g2⟩
    · rw [if_pos (.inr (by omega))]
      exact .inl ⟨rfl, fun c ⟨a, b, _, hb, _⟩ => g1 b hb⟩
    · rw [if_neg (by omega)]
      refine .inr ⟨by omega, ⟨m, n, h1, g1, rfl⟩, ?_⟩
      rintro c ⟨a, b, ha, hb, rfl⟩
      have := h2 a ha
      have := g2 b hb
      omega

/-! ### Either -/
def eitherL (F G : TF) : List Arc := F.arcs.map (shA 1) ++ [silA 0 (1 + F.start) 0] ++ G.arcs.map (shA (1 + F.st)) ++ [silA 0 (1 + F.st + G.start) 0]

end Go.Fw
