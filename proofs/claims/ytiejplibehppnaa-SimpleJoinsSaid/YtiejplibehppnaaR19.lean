/- Walks of the functions: what each computes. -/
import Derived.Test.YtiejplibehppnaaR18
import Derived.Test.YtiejplibehppnaaR11

set_option linter.unusedSimpArgs false
set_option linter.unusedVariables false

namespace Go.Fw
open Go Go.Proofs

abbrev hpAg (F : TF) (u v : List Int) (rows : List Sli) (m : List (Addr × List Int × Nat)) : List (Nat × SO) :=
  [(0, .arr false 3 .int F.fin 0), (1, .arr false 47 .arc F.arcs 0), (2, .arr false 3 .int u 0), (3, .arr false 3 .int v 0), (4, .box 25 (onF F)), (5, .arr true 22 .sli rows 0), (6, .pool 3 .int m)]

/-- The rows as they are built. -/
def bldL (n i o : Nat) (j : Nat) : List Int := if j < i then List.replicate n (-1) else if j = i then List.replicate o (-1) else []

theorem bld_all {n N : Nat} : ∀ j, j < N → bldL n N 0 j = rowT (fun _ _ => -1) n j := by
  intro j hj
  unfold bldL rowT
  rw [if_pos hj]
  apply List.ext_getElem <;> simp

theorem bld_more {n i o : Nat} (j : Nat) : (if j = i then bldL n i o i ++ [-1] else bldL n i o j) = bldL n i (o + 1) j := by
  unfold bldL
  by_cases e : j = i
  · subst e
    rw [if_pos rfl, if_neg (Nat.lt_irrefl _), if_pos rfl, if_neg (Nat.lt_irrefl _), if_pos rfl, List.replicate_succ']
  · rw [if_neg e, if_neg e, if_neg e]

theorem bld_row {n i : Nat} (j : Nat) : bldL n i n j = bldL n (i + 1) 0 j := by
  unfold bldL
  by_cases h1 : j < i
  · rw [if_pos h1, if_pos (by omega)]
  · rw [if_neg h1]
    by_cases h2 : j = i
    · rw [if_pos h2, if_pos (by omega)]
    · rw [if_neg h2, if_neg (by omega)]
      split <;> rfl

theorem tab2_nil (n N : Nat) : Tab2 [] (List.replicate N EK.sli.dflt) N (bldL n 0 0) := by
  have e : ∀ j, j < N → (List.replicate N EK.sli.dflt).getD j EK.sli.dflt = EK.sli.dflt := fun j hj => by simp [List.getD, hj]
  refine ⟨by simp, fun j hj => ?_, fun j hj => ?_, fun s t b hs ht hst hb => ?_⟩
  · rw [e j hj]; exact ⟨rfl, rfl⟩
  · rw [e j hj]; unfold bldL; rw [if_neg (by omega)]; split <;> rfl
  · rw [e s hs] at hb; cases hb

theorem agT_start {F : TF} {u v : List Int} : AgT (Wt F) u v 1000000000000000 0 0 (up2 (fun _ _ => -1) 0 0 0) := by
  have e : ∀ a b, up2 (fun _ _ => -1) 0 0 0 a b = if a = 0 ∧ b = 0 then 0 else -1 := fun a b => rfl
  refine ⟨fun a b h1 h2 => ?_, fun a b h1 h2 h3 => ?_, rfl, fun a b a' b' c1 c2 h => by omega⟩
  · rw [e]; split <;> omega
  · rw [e] at h3 ⊢
    split at h3
    · rename_i h
      rw [if_pos h, h.1, h.2]
      exact .nil
    · omega

theorem AgT.weak {P : List Int → List Int → Int → Prop} {u v : List Int} {B : Int} {T : Nat → Nat → Int} {i : Nat} (h : AgT P u v B (i + 1) 0 T) : AgT P u v B i v.length T :=
  ⟨h.low, h.snd, h.org, fun a b a' b' c1 c2 hl h1 h2 h3 h4 h5 h6 => h.cpl a b a' b' c1 c2 (by omega) h1 h2 h3 h4 h5 h6⟩

def SepR (rows prow : List Sli) (N N' : Nat) : Prop := ∀ j x b, j < N → x < N' → (rows.getD j EK.sli.dflt).a = some b → (prow.getD x EK.sli.dflt).a ≠ some b

theorem pc_join {F : TF} {u v : List Int} {m m' : List (Addr × List Int × Nat)} {xs : List Sli} {n : Nat} (h : PcAt F u v m' xs n) (hd : ∀ a x, lkA m' a = some x → lkA m a = none) : PcAt F u v (m ++ m') xs n :=
  h.keep fun j b hj hb => by
    obtain ⟨y, g1, _⟩ := (h.2 j hj).1.some hb
    rw [lkA_append, hd b y g1]

theorem sep_join {F : TF} {u v : List Int} {m m' : List (Addr × List Int × Nat)} {rows xs : List Sli} {N n : Nat} {L : Nat → List Int} (ht : Tab2 m rows N L) (h : PcAt F u v m' xs n) (hd : ∀ a x, lkA m' a = some x → lkA m a = none) : SepR rows xs N n := by
  intro j x b hj hx hb hc
  obtain ⟨y, g1, _⟩ := (ht.hd j hj).some hb
  obtain ⟨z, k1, _⟩ := (h.2 x hx).1.some hc
  rw [hd b z k1] at g1
  cases g1

set_option maxHeartbeats 16000000 in
set_option maxRecDepth 20000 in
theorem againOf_c (F : TF) (u v : List Int) (cu cv : Nat) (hF : FOk F) (hu : u.length ≤ 40) (hv : v.length ≤ 40) (hcu : u.length ≤ cu) (hcv : v.length ≤ cv) :
    Ct Try.prog 44 [fV F, .c (.sl 2 1 0 u.length cu), .c (.sl 3 1 0 v.length cv)] [] (hpQ F u v) 4 (fun x s => ∃ n, MinOf (Star (Wt F) u v) n ∧ x = .i n ∧ s = ⟨[], [], 4⟩) := by
  have eN : ((u.length : Int) + 1).toNat = u.length + 1 := by omega
  refine ctW Try.tyOk 15 [] Try.func44 rfl (by simp [SV.lt, SA.lt, SC.lt, arcV, fV]) (by simp) (fr := [(0, fV F), (1, .c (.sl 2 1 0 u.length cu)), (2, .c (.sl 3 1 0 v.length cv))]) rfl ?_
  repeat' (first | exact rfl | ((conv => whnf); first | ((first | refine qA (fun h => ?_) fun h => ?_ | refine qN (fun h => ?_) fun h => ?_ | refine qB (fun h => ?_) fun h => ?_ | refine qC (fun h => ?_) fun h => ?_) <;> try exact absurd h (by omega)) | refine qM (fun h => ?_) fun h => ?_ | refine oM (by (first | omega | (simp only [lenS, InI, nmin, EK.sz]; omega) | (simp only [lenS, InI, nmin, EK.sz] at *; omega))) ?_ | refine oM ?_ ?_ | refine bM ?_ ?_ | refine draw_of Try.mixed Try.tyOk 60 (by kernel_rfl) ?_))
  (conv => whnf)
  refine loopI (fun z : Nat × List Sli × List (Addr × List Int × Nat) => ⟨[(1, .c (.sl 2 1 0 u.length cu)), (2, .c (.sl 3 1 0 v.length cv)), (3, .c (.ptr 4 0)), (7, .c (.sl 5 1 0 (u.length + 1) (u.length + 1))), (8, .i z.1)], hpAg F u v z.2.1 z.2.2, 7⟩)
    (fun z => z.1 ≤ u.length + 1 ∧ Tab2 z.2.2 z.2.1 (u.length + 1) (bldL (v.length + 1) z.1 0)) (fun z => u.length + 1 - z.1) (0, List.replicate (u.length + 1) EK.sli.dflt, []) [(6, none)] ⟨by rfl, ?_, ?_⟩ ⟨Nat.zero_le _, tab2_nil _ _⟩ ?_
  · simp [eqFr, eqHp, eqV, eqA, eqC, eqO, eqCs, eqAs, look_cons, look, rn, EK.cast, EK.sz, eqCaps, eN]
  · simp [eqFr, eqHp, eqV, eqA, eqC, eqO, eqCs, eqAs, look_cons, look, rn, EK.cast, EK.sz, eqCaps, eN, nilO]
  · rintro ⟨i, rows, m⟩ ⟨hi1, htab⟩
    simp only at hi1 htab ⊢
    have hrl := htab.len
    (conv => whnf)
    refine condP_dec (fun hi => ?_) (fun hi => ?_)
    · have e0 : 0 + (i : Int).toNat = i := by omega
      repeat' (first | exact rfl | ((conv => whnf); first | ((first | refine qA (fun h => ?_) fun h => ?_ | refine qN (fun h => ?_) fun h => ?_ | refine qB (fun h => ?_) fun h => ?_ | refine qC (fun h => ?_) fun h => ?_) <;> try exact absurd h (by omega)) | refine qM (fun h => ?_) fun h => ?_ | refine oM (by (first | omega | (simp only [lenS, InI, nmin, EK.sz]; omega) | (simp only [lenS, InI, nmin, EK.sz] at *; omega))) ?_ | refine oM ?_ ?_ | refine bM ?_ ?_ | refine draw_of Try.mixed Try.tyOk 60 (by kernel_rfl) ?_))
      (conv => whnf)
      refine loopI (fun z : Nat × List Sli × List (Addr × List Int × Nat) => ⟨[(1, .c (.sl 2 1 0 u.length cu)), (2, .c (.sl 3 1 0 v.length cv)), (3, .c (.ptr 4 0)), (7, .c (.sl 5 1 0 (u.length + 1) (u.length + 1))), (8, .i i), (9, .i z.1)], hpAg F u v z.2.1 z.2.2, 7⟩)
        (fun z => z.1 ≤ v.length + 1 ∧ Tab2 z.2.2 z.2.1 (u.length + 1) (bldL (v.length + 1) i z.1)) (fun z => v.length + 1 - z.1) (0, rows, m) [] ⟨by rfl, ?_, ?_⟩ ⟨Nat.zero_le _, htab⟩ ?_
      · simp [eqFr, eqHp, eqV, eqA, eqC, eqO, eqCs, eqAs, look_cons, look, rn, EK.cast, EK.sz, eqCaps]
      · simp [eqFr, eqHp, eqV, eqA, eqC, eqO, eqCs, eqAs, look_cons, look, rn, EK.cast, EK.sz, eqCaps]
      · clear htab hrl rows m
        rintro ⟨o, rows, m⟩ ⟨ho1, htab⟩
        simp only at ho1 htab ⊢
        have hrl := htab.len
        (conv => whnf)
        refine condP_dec (fun ho => ?_) (fun ho => ?_)
        · have hhd := htab.hd i (by omega)
          have hnl := hhd.len
          rw [htab.row i (by omega)] at hnl
          have hbl : (bldL (v.length + 1) i o i).length = o := by unfold bldL; simp
          rw [hbl] at hnl
          rw [← e0] at hhd hnl
          repeat' (first | exact rfl | ((conv => whnf); first | ((first | refine qA (fun h => ?_) fun h => ?_ | refine qN (fun h => ?_) fun h => ?_ | refine qB (fun h => ?_) fun h => ?_ | refine qC (fun h => ?_) fun h => ?_) <;> try exact absurd h (by omega)) | refine qM (fun h => ?_) fun h => ?_ | refine oM (by (first | omega | (simp only [lenS, InI, nmin, EK.sz]; omega) | (simp only [lenS, InI, nmin, EK.sz] at *; omega))) ?_ | refine oM ?_ ?_ | refine bM ?_ ?_ | refine draw_of Try.mixed Try.tyOk 60 (by kernel_rfl) ?_))
          · exact ⟨hhd, by omega, by omega⟩
          · intro m' h' happ
            have happ' : App m (rows.getD i EK.sli.dflt) [-1] m' h' := by rw [← e0]; exact happ
            have htab2 := (htab.app (by omega) happ').cong fun j _ => bld_more j
            clear htab happ happ'
            repeat' (first | exact rfl | ((conv => whnf); first | ((first | refine qA (fun h => ?_) fun h => ?_ | refine qN (fun h => ?_) fun h => ?_ | refine qB (fun h => ?_) fun h => ?_ | refine qC (fun h => ?_) fun h => ?_) <;> try exact absurd h (by omega)) | refine qM (fun h => ?_) fun h => ?_ | refine oM (by (first | omega | (simp only [lenS, InI, nmin, EK.sz]; omega) | (simp only [lenS, InI, nmin, EK.sz] at *; omega))) ?_ | refine oM ?_ ?_ | refine bM ?_ ?_ | refine draw_of Try.mixed Try.tyOk 60 (by kernel_rfl) ?_))
            (conv => whnf)
            refine ⟨(o + 1, rows.set i h', m'), [], ⟨by rfl, ?_, ?_⟩, ⟨by simp only; omega, htab2⟩, by simp only; omega⟩
            · simp [eqFr, eqHp, eqV, eqA, eqC, eqO, eqCs, eqAs, look_cons, look, rn, EK.cast, EK.sz, eqCaps]
            · simp [eqFr, eqHp, eqV, eqA, eqC, eqO, eqCs, eqAs, look_cons, look, rn, EK.cast, EK.sz, eqCaps]
        · have e : o = v.length + 1 := by omega
          subst e
          repeat' (first | exact rfl | ((conv => whnf); first | ((first | refine qA (fun h => ?_) fun h => ?_ | refine qN (fun h => ?_) fun h => ?_ | refine qB (fun h => ?_) fun h => ?_ | refine qC (fun h => ?_) fun h => ?_) <;> try exact absurd h (by omega)) | refine qM (fun h => ?_) fun h => ?_ | refine oM (by (first | omega | (simp only [lenS, InI, nmin, EK.sz]; omega) | (simp only [lenS, InI, nmin, EK.sz] at *; omega))) ?_ | refine oM ?_ ?_ | refine bM ?_ ?_ | refine draw_of Try.mixed Try.tyOk 60 (by kernel_rfl) ?_))
          (conv => whnf)
          refine ⟨(i + 1, rows, m), [], ⟨by rfl, ?_, ?_⟩, ⟨by simp only; omega, htab.cong fun j _ => bld_row j⟩, by simp only; omega⟩
          · simp [eqFr, eqHp, eqV, eqA, eqC, eqO, eqCs, eqAs, look_cons, look, rn, EK.cast, EK.sz, eqCaps]
          · simp [eqFr, eqHp, eqV, eqA, eqC, eqO, eqCs, eqAs, look_cons, look, rn, EK.cast, EK.sz, eqCaps]
    · have e : i = u.length + 1 := by omega
      subst e
      have htab1 : Tab2 m rows (u.length + 1) (rowT (fun _ _ => -1) (v.length + 1)) := htab.cong fun j hj => bld_all j hj
      have htab2 := (htab1.upd (j := 0) (k := 0) (x := 0) (by omega) (by omega)).1
      have h0n := (htab1.hd 0 (by omega)).len
      have h0l := htab1.row 0 (by omega)
      have h0k := rowT_len (fun _ _ => -1) (v.length + 1) 0
      rw [h0l, h0k] at h0n
      have h0m : (rowA m (rows.getD 0 EK.sli.dflt).a).length = v.length + 1 := by rw [h0l, h0k]
      have h0n' : (rows.getD (0 + Int.toNat 0) EK.sli.dflt).n = v.length + 1 := h0n
      have h0m' : (rowA m (rows.getD (0 + Int.toNat 0) EK.sli.dflt).a).length = v.length + 1 := h0m
      clear htab htab1 h0l h0n h0m h0k
      have hag : AgT (Wt F) u v 1000000000000000 0 0 (up2 (fun _ _ => -1) 0 0 0) := agT_start
      generalize up2 (fun _ _ => -1) 0 0 0 = T0 at *
      have hP : ∀ u v c, Wt F u v c → 0 ≤ c := fun u v c h => h.pos hF
      repeat' (first | exact rfl | ((conv => whnf); first | ((first | refine qA (fun h => ?_) fun h => ?_ | refine qN (fun h => ?_) fun h => ?_ | refine qB (fun h => ?_) fun h => ?_ | refine qC (fun h => ?_) fun h => ?_) <;> try exact absurd h (by omega)) | refine qM (fun h => ?_) fun h => ?_ | refine oM (by (first | omega | (simp only [lenS, InI, nmin, EK.sz]; omega) | (simp only [lenS, InI, nmin, EK.sz] at *; omega))) ?_ | refine oM ?_ ?_ | refine bM ?_ ?_ | refine draw_of Try.mixed Try.tyOk 60 (by kernel_rfl) ?_))
      (conv => whnf)
      refine loopI (fun z : Nat × List (Addr × List Int × Nat) × (Nat → Nat → Int) => ⟨[(1, .c (.sl 2 1 0 u.length cu)), (2, .c (.sl 3 1 0 v.length cv)), (3, .c (.ptr 4 0)), (7, .c (.sl 5 1 0 (u.length + 1) (u.length + 1))), (10, .i z.1)], hpAg F u v rows z.2.1, 7⟩)
        (fun z => z.1 ≤ u.length + 1 ∧ Tab2 z.2.1 rows (u.length + 1) (rowT z.2.2 (v.length + 1)) ∧ AgT (Wt F) u v 1000000000000000 z.1 0 z.2.2) (fun z => u.length + 1 - z.1) (0, putA m (rows.getD 0 EK.sli.dflt).a 0 0, T0) [] ⟨by rfl, ?_, ?_⟩ ⟨Nat.zero_le _, htab2, hag⟩ ?_
      · simp [eqFr, eqHp, eqV, eqA, eqC, eqO, eqCs, eqAs, look_cons, look, rn, EK.cast, EK.sz, eqCaps]
      · simp [eqFr, eqHp, eqV, eqA, eqC, eqO, eqCs, eqAs, look_cons, look, rn, EK.cast, EK.sz, eqCaps]
      · clear htab2 hag h0n' h0m' m T0
        rintro ⟨i, m, T⟩ ⟨hi1, htab, hag⟩
        simp only at hi1 htab hag ⊢
        (conv => whnf)
        refine condP_dec (fun hi => ?_) (fun hi => ?_)
        · have e0 : 0 + (i : Int).toNat = i := by omega
          repeat' (first | exact rfl | ((conv => whnf); first | ((first | refine qA (fun h => ?_) fun h => ?_ | refine qN (fun h => ?_) fun h => ?_ | refine qB (fun h => ?_) fun h => ?_ | refine qC (fun h => ?_) fun h => ?_) <;> try exact absurd h (by omega)) | refine qM (fun h => ?_) fun h => ?_ | refine oM (by (first | omega | (simp only [lenS, InI, nmin, EK.sz]; omega) | (simp only [lenS, InI, nmin, EK.sz] at *; omega))) ?_ | refine oM ?_ ?_ | refine bM ?_ ?_ | refine draw_of Try.mixed Try.tyOk 60 (by kernel_rfl) ?_))
          (conv => whnf)
          refine loopI (fun z : Nat × List (Addr × List Int × Nat) × (Nat → Nat → Int) => ⟨[(1, .c (.sl 2 1 0 u.length cu)), (2, .c (.sl 3 1 0 v.length cv)), (3, .c (.ptr 4 0)), (7, .c (.sl 5 1 0 (u.length + 1) (u.length + 1))), (10, .i i), (11, .i z.1)], hpAg F u v rows z.2.1, 7⟩)
            (fun z => z.1 ≤ v.length + 1 ∧ Tab2 z.2.1 rows (u.length + 1) (rowT z.2.2 (v.length + 1)) ∧ AgT (Wt F) u v 1000000000000000 i z.1 z.2.2) (fun z => v.length + 1 - z.1) (0, m, T) [] ⟨by rfl, ?_, ?_⟩ ⟨Nat.zero_le _, htab, hag⟩ ?_
          · simp [eqFr, eqHp, eqV, eqA, eqC, eqO, eqCs, eqAs, look_cons, look, rn, EK.cast, EK.sz, eqCaps]
          · simp [eqFr, eqHp, eqV, eqA, eqC, eqO, eqCs, eqAs, look_cons, look, rn, EK.cast, EK.sz, eqCaps]
          · clear htab hag m T
            rintro ⟨o, m, T⟩ ⟨ho1, htab, hag⟩
            simp only at ho1 htab hag ⊢
            (conv => whnf)
            refine condP_dec (fun ho => ?_) (fun ho => ?_)
            · have e1 : (o : Int).toNat = o := by omega
              have hin := (htab.hd i (by omega)).len
              have hir := htab.row i (by omega)
              have hik := rowT_len T (v.length + 1) i
              have hia := rowT_at T (j := i) (show o < v.length + 1 by omega)
              rw [← hir] at hik hia
              rw [hik] at hin
              rw [← e0] at hin hik
              repeat' (first | exact rfl | ((conv => whnf); first | ((first | refine qA (fun h => ?_) fun h => ?_ | refine qN (fun h => ?_) fun h => ?_ | refine qB (fun h => ?_) fun h => ?_ | refine qC (fun h => ?_) fun h => ?_) <;> try exact absurd h (by omega)) | refine qM (fun h => ?_) fun h => ?_ | refine oM (by (first | omega | (simp only [lenS, InI, nmin, EK.sz]; omega) | (simp only [lenS, InI, nmin, EK.sz] at *; omega))) ?_ | refine oM ?_ ?_ | refine bM ?_ ?_))
              · have hneg : T i o < 0 := by
                  rw [← hia, ← e0, ← e1]
                  exact ‹_›
                (conv => whnf)
                refine ⟨(o + 1, m, T), [], ⟨by rfl, ?_, ?_⟩, ⟨by simp only; omega, htab, hag.skip hP (by omega) (by omega) hneg⟩, by simp only; omega⟩
                · simp [eqFr, eqHp, eqV, eqA, eqC, eqO, eqCs, eqAs, look_cons, look, rn, EK.cast, EK.sz, eqCaps]
                · simp [eqFr, eqHp, eqV, eqA, eqC, eqO, eqCs, eqAs, look_cons, look, rn, EK.cast, EK.sz, eqCaps]
              · have hpos : 0 ≤ T i o := by
                  rw [← hia]
                  have h9 : ¬(rowA m (rows.getD (0 + (i : Int).toNat) EK.sli.dflt).a).getD (o : Int).toNat EK.int.dflt < (0 : Int) := ‹_›
                  rw [e0, e1] at h9
                  exact Int.not_lt.1 h9
                (conv => whnf)
                refine drawCut (fun y : List (Addr × List Int × Nat) × List Sli × Nat => ⟨[(1, .c (.sl 2 1 0 u.length cu)), (2, .c (.sl 3 1 0 v.length cv)), (3, .c (.ptr 4 0)), (7, .c (.sl 5 1 0 (u.length + 1) (u.length + 1))), (10, .i i), (11, .i o), (12, .c (.sl 7 1 0 y.2.1.length (y.2.1.length + y.2.2)))], (7, .arr true 22 .sli y.2.1 y.2.2) :: hpAg F u v rows y.1, 8⟩)
                  (fun y => Tab2 y.1 rows (u.length + 1) (rowT T (v.length + 1)) ∧ PcAt F (u.drop i) (v.drop o) y.1 y.2.1 (u.length - i + 1) ∧ SepR rows y.2.1 (u.length + 1) (u.length - i + 1)) ?_ ?_
                · repeat' (first | exact rfl | ((conv => whnf); first | ((first | refine qA (fun h => ?_) fun h => ?_ | refine qN (fun h => ?_) fun h => ?_ | refine qB (fun h => ?_) fun h => ?_ | refine qC (fun h => ?_) fun h => ?_) <;> try exact absurd h (by omega)) | refine qM (fun h => ?_) fun h => ?_ | refine oM (by (first | omega | (simp only [lenS, InI, nmin, EK.sz]; omega) | (simp only [lenS, InI, nmin, EK.sz] at *; omega))) ?_ | refine oM ?_ ?_ | refine bM ?_ ?_ | refine draw_of Try.mixed Try.tyOk 60 (by kernel_rfl) ?_ | intro _))
                  all_goals (conv => whnf)
                  · have hsu : sub u (0 + (i : Int).toNat) ((u.length : Int) - i).toNat = u.drop i := drop_sub (.inl (by omega)) (by omega)
                    have hsv : sub v (0 + (o : Int).toNat) ((v.length : Int) - o).toNat = v.drop o := drop_sub (.inl (by omega)) (by omega)
                    have hlu : (u.drop i).length = ((u.length : Int) - i).toNat := by rw [List.length_drop]; omega
                    have hlv : (v.drop o).length = ((v.length : Int) - o).toNat := by rw [List.length_drop]; omega
                    have hlu2 : (u.drop i).length ≤ 40 := by rw [List.length_drop]; omega
                    have hlv2 : (v.drop o).length ≤ 40 := by rw [List.length_drop]; omega
                    refine callSub 2 (0 + (i : Int).toNat) ((u.length : Int) - i).toNat rfl (by omega) (args' := [.a (.agg (onF F)), .c (.sl 7 1 0 ((u.length : Int) - i).toNat (cu - (i : Int).toNat)), .c (.sl 3 1 (0 + (o : Int).toNat) ((v.length : Int) - o).toNat (cv - (o : Int).toNat))]) (fun β => by simp [SV.den, SA.den, SC.den, Env.add, appN, ptrs, EK.sz, adr_zero, Option.map_map, Function.comp_def]) ?_
                    (conv => whnf)
                    refine callSub 3 (0 + (o : Int).toNat) ((v.length : Int) - o).toNat rfl (by omega) (args' := [.a (.agg (onF F)), .c (.sl 7 1 0 ((u.length : Int) - i).toNat (cu - (i : Int).toNat)), .c (.sl 8 1 0 ((v.length : Int) - o).toNat (cv - (o : Int).toNat))]) (fun β => by simp [SV.den, SA.den, SC.den, Env.add, appN, ptrs, EK.sz, adr_zero, Option.map_map, Function.comp_def]) ?_
                    (conv => whnf)
                    rw [hsu, hsv]
                    generalize hue : u.drop i = u' at *
                    generalize hve : v.drop o = v' at *
                    refine callJoin 6 10 (by decide) ?_
                    refine callF (pieces_c F u' v' (cu - (i : Int).toNat) (cv - (o : Int).toNat) hF hlu2 hlv2) [0, 1, 7, 8] Try.call86 rfl (by simp [eqLs, eqL, eqO, eqC, eqCs, rn, renOf, look_cons, look, EK.cast, hlu, hlv]) (by simp [appN, ptrs, eqVL, eqV, eqA, eqC, eqCs, eqAs, eqCaps, EK.sz, rn, renOf, look_cons, look, arcV, fV, hlu, hlv]) (by simp [appN, ptrs, SV.lt, SA.lt, SC.lt, arcV, fV, lenN]) ?_
                    rintro _ _ ⟨prow, psp, m', rfl, rfl, hpc⟩
                    (conv => whnf)
                    intro hdis
                    repeat' (first | exact rfl | ((conv => whnf); first | ((first | refine qA (fun h => ?_) fun h => ?_ | refine qN (fun h => ?_) fun h => ?_ | refine qB (fun h => ?_) fun h => ?_ | refine qC (fun h => ?_) fun h => ?_) <;> try exact absurd h (by omega)) | refine qM (fun h => ?_) fun h => ?_ | refine oM (by (first | omega | (simp only [lenS, InI, nmin, EK.sz]; omega) | (simp only [lenS, InI, nmin, EK.sz] at *; omega))) ?_ | refine oM ?_ ?_ | refine bM ?_ ?_ | refine draw_of Try.mixed Try.tyOk 60 (by kernel_rfl) ?_ | intro _))
                    (conv => whnf)
                    refine ⟨(m ++ m', prow, psp), [(7, some 9)], ⟨by rfl, ?_, ?_⟩, htab.join, ?_, ?_⟩
                    · simp [eqFr, eqHp, eqV, eqA, eqC, eqO, eqCs, eqAs, look_cons, look, rn, EK.cast, EK.sz, eqCaps]
                    · simp [eqFr, eqHp, eqV, eqA, eqC, eqO, eqCs, eqAs, look_cons, look, rn, EK.cast, EK.sz, eqCaps]
                    · have e : u.length - i + 1 = u'.length + 1 := by omega
                      simp only [e]
                      exact pc_join hpc hdis
                    · have e : u.length - i + 1 = u'.length + 1 := by omega
                      simp only [e]
                      exact sep_join htab hpc hdis
                  · have hsu : sub u (0 + (i : Int).toNat) ((u.length : Int) - i).toNat = u.drop i := drop_sub (.inl (by omega)) (by omega)
                    have hsv : sub v (0) ((v.length : Int) - o).toNat = v.drop o := drop_sub (.inr (by omega)) (by omega)
                    have hlu : (u.drop i).length = ((u.length : Int) - i).toNat := by rw [List.length_drop]; omega
                    have hlv : (v.drop o).length = ((v.length : Int) - o).toNat := by rw [List.length_drop]; omega
                    have hlu2 : (u.drop i).length ≤ 40 := by rw [List.length_drop]; omega
                    have hlv2 : (v.drop o).length ≤ 40 := by rw [List.length_drop]; omega
                    refine callSub 2 (0 + (i : Int).toNat) ((u.length : Int) - i).toNat rfl (by omega) (args' := [.a (.agg (onF F)), .c (.sl 7 1 0 ((u.length : Int) - i).toNat (cu - (i : Int).toNat)), .c (.sl 3 1 (0) ((v.length : Int) - o).toNat (cv - (o : Int).toNat))]) (fun β => by simp [SV.den, SA.den, SC.den, Env.add, appN, ptrs, EK.sz, adr_zero, Option.map_map, Function.comp_def]) ?_
                    (conv => whnf)
                    refine callSub 3 (0) ((v.length : Int) - o).toNat rfl (by omega) (args' := [.a (.agg (onF F)), .c (.sl 7 1 0 ((u.length : Int) - i).toNat (cu - (i : Int).toNat)), .c (.sl 8 1 0 ((v.length : Int) - o).toNat (cv - (o : Int).toNat))]) (fun β => by simp [SV.den, SA.den, SC.den, Env.add, appN, ptrs, EK.sz, adr_zero, Option.map_map, Function.comp_def]) ?_
                    (conv => whnf)
                    rw [hsu, hsv]
                    generalize hue : u.drop i = u' at *
                    generalize hve : v.drop o = v' at *
                    refine callJoin 6 10 (by decide) ?_
                    refine callF (pieces_c F u' v' (cu - (i : Int).toNat) (cv - (o : Int).toNat) hF hlu2 hlv2) [0, 1, 7, 8] Try.call86 rfl (by simp [eqLs, eqL, eqO, eqC, eqCs, rn, renOf, look_cons, look, EK.cast, hlu, hlv]) (by simp [appN, ptrs, eqVL, eqV, eqA, eqC, eqCs, eqAs, eqCaps, EK.sz, rn, renOf, look_cons, look, arcV, fV, hlu, hlv]) (by simp [appN, ptrs, SV.lt, SA.lt, SC.lt, arcV, fV, lenN]) ?_
                    rintro _ _ ⟨prow, psp, m', rfl, rfl, hpc⟩
                    (conv => whnf)
                    intro hdis
                    repeat' (first | exact rfl | ((conv => whnf); first | ((first | refine qA (fun h => ?_) fun h => ?_ | refine qN (fun h => ?_) fun h => ?_ | refine qB (fun h => ?_) fun h => ?_ | refine qC (fun h => ?_) fun h => ?_) <;> try exact absurd h (by omega)) | refine qM (fun h => ?_) fun h => ?_ | refine oM (by (first | omega | (simp only [lenS, InI, nmin, EK.sz]; omega) | (simp only [lenS, InI, nmin, EK.sz] at *; omega))) ?_ | refine oM ?_ ?_ | refine bM ?_ ?_ | refine draw_of Try.mixed Try.tyOk 60 (by kernel_rfl) ?_ | intro _))
                    (conv => whnf)
                    refine ⟨(m ++ m', prow, psp), [(7, some 9)], ⟨by rfl, ?_, ?_⟩, htab.join, ?_, ?_⟩
                    · simp [eqFr, eqHp, eqV, eqA, eqC, eqO, eqCs, eqAs, look_cons, look, rn, EK.cast, EK.sz, eqCaps]
                    · simp [eqFr, eqHp, eqV, eqA, eqC, eqO, eqCs, eqAs, look_cons, look, rn, EK.cast, EK.sz, eqCaps]
                    · have e : u.length - i + 1 = u'.length + 1 := by omega
                      simp only [e]
                      exact pc_join hpc hdis
                    · have e : u.length - i + 1 = u'.length + 1 := by omega
                      simp only [e]
                      exact sep_join htab hpc hdis
                  · have hsu : sub u (0) ((u.length : Int) - i).toNat = u.drop i := drop_sub (.inr (by omega)) (by omega)
                    have hsv : sub v (0 + (o : Int).toNat) ((v.length : Int) - o).toNat = v.drop o := drop_sub (.inl (by omega)) (by omega)
                    have hlu : (u.drop i).length = ((u.length : Int) - i).toNat := by rw [List.length_drop]; omega
                    have hlv : (v.drop o).length = ((v.length : Int) - o).toNat := by rw [List.length_drop]; omega
                    have hlu2 : (u.drop i).length ≤ 40 := by rw [List.length_drop]; omega
                    have hlv2 : (v.drop o).length ≤ 40 := by rw [List.length_drop]; omega
                    refine callSub 2 (0) ((u.length : Int) - i).toNat rfl (by omega) (args' := [.a (.agg (onF F)), .c (.sl 7 1 0 ((u.length : Int) - i).toNat (cu - (i : Int).toNat)), .c (.sl 3 1 (0 + (o : Int).toNat) ((v.length : Int) - o).toNat (cv - (o : Int).toNat))]) (fun β => by simp [SV.den, SA.den, SC.den, Env.add, appN, ptrs, EK.sz, adr_zero, Option.map_map, Function.comp_def]) ?_
                    (conv => whnf)
                    refine callSub 3 (0 + (o : Int).toNat) ((v.length : Int) - o).toNat rfl (by omega) (args' := [.a (.agg (onF F)), .c (.sl 7 1 0 ((u.length : Int) - i).toNat (cu - (i : Int).toNat)), .c (.sl 8 1 0 ((v.length : Int) - o).toNat (cv - (o : Int).toNat))]) (fun β => by simp [SV.den, SA.den, SC.den, Env.add, appN, ptrs, EK.sz, adr_zero, Option.map_map, Function.comp_def]) ?_
                    (conv => whnf)
                    rw [hsu, hsv]
                    generalize hue : u.drop i = u' at *
                    generalize hve : v.drop o = v' at *
                    refine callJoin 6 10 (by decide) ?_
                    refine callF (pieces_c F u' v' (cu - (i : Int).toNat) (cv - (o : Int).toNat) hF hlu2 hlv2) [0, 1, 7, 8] Try.call86 rfl (by simp [eqLs, eqL, eqO, eqC, eqCs, rn, renOf, look_cons, look, EK.cast, hlu, hlv]) (by simp [appN, ptrs, eqVL, eqV, eqA, eqC, eqCs, eqAs, eqCaps, EK.sz, rn, renOf, look_cons, look, arcV, fV, hlu, hlv]) (by simp [appN, ptrs, SV.lt, SA.lt, SC.lt, arcV, fV, lenN]) ?_
                    rintro _ _ ⟨prow, psp, m', rfl, rfl, hpc⟩
                    (conv => whnf)
                    intro hdis
                    repeat' (first | exact rfl | ((conv => whnf); first | ((first | refine qA (fun h => ?_) fun h => ?_ | refine qN (fun h => ?_) fun h => ?_ | refine qB (fun h => ?_) fun h => ?_ | refine qC (fun h => ?_) fun h => ?_) <;> try exact absurd h (by omega)) | refine qM (fun h => ?_) fun h => ?_ | refine oM (by (first | omega | (simp only [lenS, InI, nmin, EK.sz]; omega) | (simp only [lenS, InI, nmin, EK.sz] at *; omega))) ?_ | refine oM ?_ ?_ | refine bM ?_ ?_ | refine draw_of Try.mixed Try.tyOk 60 (by kernel_rfl) ?_ | intro _))
                    (conv => whnf)
                    refine ⟨(m ++ m', prow, psp), [(7, some 9)], ⟨by rfl, ?_, ?_⟩, htab.join, ?_, ?_⟩
                    · simp [eqFr, eqHp, eqV, eqA, eqC, eqO, eqCs, eqAs, look_cons, look, rn, EK.cast, EK.sz, eqCaps]
                    · simp [eqFr, eqHp, eqV, eqA, eqC, eqO, eqCs, eqAs, look_cons, look, rn, EK.cast, EK.sz, eqCaps]
                    · have e : u.length - i + 1 = u'.length + 1 := by omega
                      simp only [e]
                      exact pc_join hpc hdis
                    · have e : u.length - i + 1 = u'.length + 1 := by omega
                      simp only [e]
                      exact sep_join htab hpc hdis
                  · have hsu : sub u (0) ((u.length : Int) - i).toNat = u.drop i := drop_sub (.inr (by omega)) (by omega)
                    have hsv : sub v (0) ((v.length : Int) - o).toNat = v.drop o := drop_sub (.inr (by omega)) (by omega)
                    have hlu : (u.drop i).length = ((u.length : Int) - i).toNat := by rw [List.length_drop]; omega
                    have hlv : (v.drop o).length = ((v.length : Int) - o).toNat := by rw [List.length_drop]; omega
                    have hlu2 : (u.drop i).length ≤ 40 := by rw [List.length_drop]; omega
                    have hlv2 : (v.drop o).length ≤ 40 := by rw [List.length_drop]; omega
                    refine callSub 2 (0) ((u.length : Int) - i).toNat rfl (by omega) (args' := [.a (.agg (onF F)), .c (.sl 7 1 0 ((u.length : Int) - i).toNat (cu - (i : Int).toNat)), .c (.sl 3 1 (0) ((v.length : Int) - o).toNat (cv - (o : Int).toNat))]) (fun β => by simp [SV.den, SA.den, SC.den, Env.add, appN, ptrs, EK.sz, adr_zero, Option.map_map, Function.comp_def]) ?_
                    (conv => whnf)
                    refine callSub 3 (0) ((v.length : Int) - o).toNat rfl (by omega) (args' := [.a (.agg (onF F)), .c (.sl 7 1 0 ((u.length : Int) - i).toNat (cu - (i : Int).toNat)), .c (.sl 8 1 0 ((v.length : Int) - o).toNat (cv - (o : Int).toNat))]) (fun β => by simp [SV.den, SA.den, SC.den, Env.add, appN, ptrs, EK.sz, adr_zero, Option.map_map, Function.comp_def]) ?_
                    (conv => whnf)
                    rw [hsu, hsv]
                    generalize hue : u.drop i = u' at *
                    generalize hve : v.drop o = v' at *
                    refine callJoin 6 10 (by decide) ?_
                    refine callF (pieces_c F u' v' (cu - (i : Int).toNat) (cv - (o : Int).toNat) hF hlu2 hlv2) [0, 1, 7, 8] Try.call86 rfl (by simp [eqLs, eqL, eqO, eqC, eqCs, rn, renOf, look_cons, look, EK.cast, hlu, hlv]) (by simp [appN, ptrs, eqVL, eqV, eqA, eqC, eqCs, eqAs, eqCaps, EK.sz, rn, renOf, look_cons, look, arcV, fV, hlu, hlv]) (by simp [appN, ptrs, SV.lt, SA.lt, SC.lt, arcV, fV, lenN]) ?_
                    rintro _ _ ⟨prow, psp, m', rfl, rfl, hpc⟩
                    (conv => whnf)
                    intro hdis
                    repeat' (first | exact rfl | ((conv => whnf); first | ((first | refine qA (fun h => ?_) fun h => ?_ | refine qN (fun h => ?_) fun h => ?_ | refine qB (fun h => ?_) fun h => ?_ | refine qC (fun h => ?_) fun h => ?_) <;> try exact absurd h (by omega)) | refine qM (fun h => ?_) fun h => ?_ | refine oM (by (first | omega | (simp only [lenS, InI, nmin, EK.sz]; omega) | (simp only [lenS, InI, nmin, EK.sz] at *; omega))) ?_ | refine oM ?_ ?_ | refine bM ?_ ?_ | refine draw_of Try.mixed Try.tyOk 60 (by kernel_rfl) ?_ | intro _))
                    (conv => whnf)
                    refine ⟨(m ++ m', prow, psp), [(7, some 9)], ⟨by rfl, ?_, ?_⟩, htab.join, ?_, ?_⟩
                    · simp [eqFr, eqHp, eqV, eqA, eqC, eqO, eqCs, eqAs, look_cons, look, rn, EK.cast, EK.sz, eqCaps]
                    · simp [eqFr, eqHp, eqV, eqA, eqC, eqO, eqCs, eqAs, look_cons, look, rn, EK.cast, EK.sz, eqCaps]
                    · have e : u.length - i + 1 = u'.length + 1 := by omega
                      simp only [e]
                      exact pc_join hpc hdis
                    · have e : u.length - i + 1 = u'.length + 1 := by omega
                      simp only [e]
                      exact sep_join htab hpc hdis
                · rintro ⟨m, prow, psp⟩ ⟨htab, hpc, hsep⟩
                  simp only at htab hpc hsep ⊢
                  clear hir hik hin hia
                  have hul : (u.drop i).length = u.length - i := List.length_drop
                  have hvl : (v.drop o).length = v.length - o := List.length_drop
                  have hprl := hpc.1
                  repeat' (first | exact rfl | ((conv => whnf); first | ((first | refine qA (fun h => ?_) fun h => ?_ | refine qN (fun h => ?_) fun h => ?_ | refine qB (fun h => ?_) fun h => ?_ | refine qC (fun h => ?_) fun h => ?_) <;> try exact absurd h (by omega)) | refine qM (fun h => ?_) fun h => ?_ | refine oM (by (first | omega | (simp only [lenS, InI, nmin, EK.sz]; omega) | (simp only [lenS, InI, nmin, EK.sz] at *; omega))) ?_ | refine oM ?_ ?_ | refine bM ?_ ?_ | refine draw_of Try.mixed Try.tyOk 60 (by kernel_rfl) ?_ | intro _))
                  (conv => whnf)
                  refine loopI (fun z : Nat × List (Addr × List Int × Nat) × (Nat → Nat → Int) => ⟨[(1, .c (.sl 2 1 0 u.length cu)), (2, .c (.sl 3 1 0 v.length cv)), (3, .c (.ptr 4 0)), (7, .c (.sl 5 1 0 (u.length + 1) (u.length + 1))), (10, .i i), (11, .i o), (12, .c (.sl 7 1 0 prow.length (prow.length + psp))), (13, .i z.1)], (7, .arr true 22 .sli prow psp) :: hpAg F u v rows z.2.1, 8⟩)
                    (fun z => z.1 ≤ u.length - i + 1 ∧ Tab2 z.2.1 rows (u.length + 1) (rowT z.2.2 (v.length + 1)) ∧ PcAt F (u.drop i) (v.drop o) z.2.1 prow (u.length - i + 1) ∧ AgW (Wt F) u v 1000000000000000 i o z.1 0 (T i o) z.2.2) (fun z => u.length - i + 1 - z.1) (0, m, T) [] ⟨by rfl, ?_, ?_⟩ ⟨Nat.zero_le _, htab, hpc, hag.start⟩ ?_
                  · simp [eqFr, eqHp, eqV, eqA, eqC, eqO, eqCs, eqAs, look_cons, look, rn, EK.cast, EK.sz, eqCaps]
                  · simp [eqFr, eqHp, eqV, eqA, eqC, eqO, eqCs, eqAs, look_cons, look, rn, EK.cast, EK.sz, eqCaps]
                  · have hti := hag.low i o (by omega) (by omega)
                    generalize T i o = t at *
                    clear htab hpc hag
                    rintro ⟨x, m, T⟩ ⟨hx1, htab, hpc, haw⟩
                    simp only at hx1 htab hpc haw ⊢
                    (conv => whnf)
                    refine condP_dec (fun hx => ?_) (fun hx => ?_)
                    · have ex : 0 + (x : Int).toNat = x := by omega
                      repeat' (first | exact rfl | ((conv => whnf); first | ((first | refine qA (fun h => ?_) fun h => ?_ | refine qN (fun h => ?_) fun h => ?_ | refine qB (fun h => ?_) fun h => ?_ | refine qC (fun h => ?_) fun h => ?_) <;> try exact absurd h (by omega)) | refine qM (fun h => ?_) fun h => ?_ | refine oM (by (first | omega | (simp only [lenS, InI, nmin, EK.sz]; omega) | (simp only [lenS, InI, nmin, EK.sz] at *; omega))) ?_ | refine oM ?_ ?_ | refine bM ?_ ?_ | refine draw_of Try.mixed Try.tyOk 60 (by kernel_rfl) ?_))
                      (conv => whnf)
                      refine loopI (fun z : Nat × List (Addr × List Int × Nat) × (Nat → Nat → Int) => ⟨[(1, .c (.sl 2 1 0 u.length cu)), (2, .c (.sl 3 1 0 v.length cv)), (3, .c (.ptr 4 0)), (7, .c (.sl 5 1 0 (u.length + 1) (u.length + 1))), (10, .i i), (11, .i o), (12, .c (.sl 7 1 0 prow.length (prow.length + psp))), (13, .i x), (14, .i z.1)], (7, .arr true 22 .sli prow psp) :: hpAg F u v rows z.2.1, 8⟩)
                        (fun z => z.1 ≤ v.length - o + 1 ∧ Tab2 z.2.1 rows (u.length + 1) (rowT z.2.2 (v.length + 1)) ∧ PcAt F (u.drop i) (v.drop o) z.2.1 prow (u.length - i + 1) ∧ AgW (Wt F) u v 1000000000000000 i o x z.1 t z.2.2) (fun z => v.length - o + 1 - z.1) (0, m, T) [] ⟨by rfl, ?_, ?_⟩ ⟨Nat.zero_le _, htab, hpc, haw⟩ ?_
                      · simp [eqFr, eqHp, eqV, eqA, eqC, eqO, eqCs, eqAs, look_cons, look, rn, EK.cast, EK.sz, eqCaps]
                      · simp [eqFr, eqHp, eqV, eqA, eqC, eqO, eqCs, eqAs, look_cons, look, rn, EK.cast, EK.sz, eqCaps]
                      · clear htab hpc haw m T
                        rintro ⟨y, m, T⟩ ⟨hy1, htab, hpc, haw⟩
                        simp only at hy1 htab hpc haw ⊢
                        have gp := hpc.2 x (by omega)
                        have hpn := gp.1.len
                        have hpl := gp.2.1
                        rw [hpl, hvl] at hpn
                        rw [hvl] at hpl
                        rw [← ex] at hpn hpl
                        repeat' (first | exact rfl | ((conv => whnf); first | ((first | refine qA (fun h => ?_) fun h => ?_ | refine qN (fun h => ?_) fun h => ?_ | refine qB (fun h => ?_) fun h => ?_ | refine qC (fun h => ?_) fun h => ?_) <;> try exact absurd h (by omega)) | refine qM (fun h => ?_) fun h => ?_ | refine oM (by (first | omega | (simp only [lenS, InI, nmin, EK.sz]; omega) | (simp only [lenS, InI, nmin, EK.sz] at *; omega))) ?_ | refine oM ?_ ?_ | refine bM ?_ ?_))
                        · have e2 : 0 + ((i : Int) + x).toNat = i + x := by omega
                          have e3 : ((o : Int) + y).toNat = o + y := by omega
                          have ey : (y : Int).toNat = y := by omega
                          have hn1 := (htab.hd (i + x) (by omega)).len
                          have hr1 := htab.row (i + x) (by omega)
                          have hl1 := rowT_len T (v.length + 1) (i + x)
                          have hA := rowT_at T (j := i + x) (show o + y < v.length + 1 by omega)
                          have hn0 := (htab.hd i (by omega)).len
                          have hr0 := htab.row i (by omega)
                          have hl0 := rowT_len T (v.length + 1) i
                          have hB := rowT_at T (j := i) (show o < v.length + 1 by omega)
                          rw [← hr1] at hl1 hA
                          rw [← hr0] at hl0 hB
                          rw [hl1] at hn1
                          rw [hl0] at hn0
                          have hC := gp.2.2 y (by omega)
                          have hA' : ((rowA m (rows.getD (0 + ((i : Int) + x).toNat) EK.sli.dflt).a).getD ((o : Int) + y).toNat EK.int.dflt) = T (i + x) (o + y) := by rw [e2, e3]; exact hA
                          have hB' : ((rowA m (rows.getD (0 + (i : Int).toNat) EK.sli.dflt).a).getD (o : Int).toNat EK.int.dflt) = t := by rw [e0, e1]; exact hB.trans haw.at_
                          have hC' : MinOf (Wt F (seg u i (i + x)) (seg v o (o + y))) ((rowA m (prow.getD (0 + (x : Int).toNat) EK.sli.dflt).a).getD (y : Int).toNat EK.int.dflt) ∧ ((rowA m (prow.getD (0 + (x : Int).toNat) EK.sli.dflt).a).getD (y : Int).toNat EK.int.dflt) ≤ 1000000000000000 := by
                            rw [ex, ey]
                            unfold seg
                            rw [Nat.add_sub_cancel_left, Nat.add_sub_cancel_left]
                            exact hC
                          have hCb := @id (@LE.le Int _ ((rowA m (prow.getD (0 + (x : Int).toNat) EK.sli.dflt).a).getD (y : Int).toNat EK.int.dflt) 1000000000000000) hC'.2
                          have hCl := @id (@LE.le Int _ (-1) ((rowA m (prow.getD (0 + (x : Int).toNat) EK.sli.dflt).a).getD (y : Int).toNat EK.int.dflt)) hC'.1.low
                          rw [← e2] at hn1 hl1
                          rw [← e0] at hn0 hl0
                          have hpi : InI (((rowA m (rows.getD (0 + (i : Int).toNat) EK.sli.dflt).a).getD (o : Int).toNat EK.int.dflt) + ((rowA m (prow.getD (0 + (x : Int).toNat) EK.sli.dflt).a).getD (y : Int).toNat EK.int.dflt)) := by rw [hB']; unfold InI; omega
                          repeat' (first | exact rfl | ((conv => whnf); first | ((first | refine qA (fun h => ?_) fun h => ?_ | refine qN (fun h => ?_) fun h => ?_ | refine qB (fun h => ?_) fun h => ?_ | refine qC (fun h => ?_) fun h => ?_) <;> try exact absurd h (by omega)) | refine qM (fun h => ?_) fun h => ?_ | refine oM (by (first | omega | (simp only [lenS, InI, nmin, EK.sz]; omega) | (simp only [lenS, InI, nmin, EK.sz] at *; omega))) ?_ | refine oM ?_ ?_ | refine bM ?_ ?_ | refine draw_of Try.mixed Try.tyOk 60 (by kernel_rfl) ?_ | intro _))
                          (conv => whnf)
                          refine callI (plus_c ((rowA m (rows.getD (0 + (i : Int).toNat) EK.sli.dflt).a).getD (o : Int).toNat EK.int.dflt) ((rowA m (prow.getD (0 + (x : Int).toNat) EK.sli.dflt).a).getD (y : Int).toNat EK.int.dflt) hpi) [] Try.call67 rfl trivial (by simp [appN, ptrs, eqVL, eqV, eqA, eqC, eqCs, eqAs, eqCaps, EK.sz, rn, renOf, look_cons, look, arcV, fV]) (by simp [appN, ptrs, SV.lt, SA.lt, SC.lt, arcV, fV]) ?_
                          repeat' (first | exact rfl | ((conv => whnf); first | ((first | refine qA (fun h => ?_) fun h => ?_ | refine qN (fun h => ?_) fun h => ?_ | refine qB (fun h => ?_) fun h => ?_ | refine qC (fun h => ?_) fun h => ?_) <;> try exact absurd h (by omega)) | refine qM (fun h => ?_) fun h => ?_ | refine oM (by (first | omega | (simp only [lenS, InI, nmin, EK.sz]; omega) | (simp only [lenS, InI, nmin, EK.sz] at *; omega))) ?_ | refine oM ?_ ?_ | refine bM ?_ ?_ | refine draw_of Try.mixed Try.tyOk 60 (by kernel_rfl) ?_ | intro _))
                          (conv => whnf)
                          refine callI (less_c ((rowA m (rows.getD (0 + ((i : Int) + x).toNat) EK.sli.dflt).a).getD ((o : Int) + y).toNat EK.int.dflt) (plus ((rowA m (rows.getD (0 + (i : Int).toNat) EK.sli.dflt).a).getD (o : Int).toNat EK.int.dflt) ((rowA m (prow.getD (0 + (x : Int).toNat) EK.sli.dflt).a).getD (y : Int).toNat EK.int.dflt))) [] Try.call42 rfl trivial (by simp [appN, ptrs, eqVL, eqV, eqA, eqC, eqCs, eqAs, eqCaps, EK.sz, rn, renOf, look_cons, look, arcV, fV]) (by simp [appN, ptrs, SV.lt, SA.lt, SC.lt, arcV, fV]) ?_
                          repeat' (first | exact rfl | ((conv => whnf); first | ((first | refine qA (fun h => ?_) fun h => ?_ | refine qN (fun h => ?_) fun h => ?_ | refine qB (fun h => ?_) fun h => ?_ | refine qC (fun h => ?_) fun h => ?_) <;> try exact absurd h (by omega)) | refine qM (fun h => ?_) fun h => ?_ | refine oM (by (first | omega | (simp only [lenS, InI, nmin, EK.sz]; omega) | (simp only [lenS, InI, nmin, EK.sz] at *; omega))) ?_ | refine oM ?_ ?_ | refine bM ?_ ?_ | refine draw_of Try.mixed Try.tyOk 60 (by kernel_rfl) ?_ | intro _))
                          (conv => whnf)
                          rw [hA', hB', e2, e3]
                          generalize hcv2 : ((rowA m (prow.getD (0 + (x : Int).toNat) EK.sli.dflt).a).getD (y : Int).toNat EK.int.dflt) = p at *
                          obtain ⟨htab2, hkeep⟩ := htab.upd (j := i + x) (k := o + y) (x := less (T (i + x) (o + y)) (plus t p)) (by omega) (by omega)
                          refine ⟨(y + 1, putA m (rows.getD (i + x) EK.sli.dflt).a (o + y) (less (T (i + x) (o + y)) (plus t p)), up2 T (i + x) (o + y) (less (T (i + x) (o + y)) (plus t p))), [], ⟨by rfl, ?_, ?_⟩, ⟨by simp only; omega, htab2, hpc.keep fun j b hj hb => hkeep b fun hc => hsep _ _ b (by omega) hj hc hb, haw.step hP (by decide) hpos (by omega) (by omega) hC'.1 hC'.2 (fun _ _ => trivial)⟩, by simp only; omega⟩
                          · simp [eqFr, eqHp, eqV, eqA, eqC, eqO, eqCs, eqAs, look_cons, look, rn, EK.cast, EK.sz, eqCaps]
                          · simp [eqFr, eqHp, eqV, eqA, eqC, eqO, eqCs, eqAs, look_cons, look, rn, EK.cast, EK.sz, eqCaps]
                        · have e : y = v.length - o + 1 := by omega
                          subst e
                          repeat' (first | exact rfl | ((conv => whnf); first | ((first | refine qA (fun h => ?_) fun h => ?_ | refine qN (fun h => ?_) fun h => ?_ | refine qB (fun h => ?_) fun h => ?_ | refine qC (fun h => ?_) fun h => ?_) <;> try exact absurd h (by omega)) | refine qM (fun h => ?_) fun h => ?_ | refine oM (by (first | omega | (simp only [lenS, InI, nmin, EK.sz]; omega) | (simp only [lenS, InI, nmin, EK.sz] at *; omega))) ?_ | refine oM ?_ ?_ | refine bM ?_ ?_ | refine draw_of Try.mixed Try.tyOk 60 (by kernel_rfl) ?_ | intro _))
                          (conv => whnf)
                          refine ⟨(x + 1, m, T), [], ⟨by rfl, ?_, ?_⟩, ⟨by simp only; omega, htab, hpc, haw.rowx⟩, by simp only; omega⟩
                          · simp [eqFr, eqHp, eqV, eqA, eqC, eqO, eqCs, eqAs, look_cons, look, rn, EK.cast, EK.sz, eqCaps]
                          · simp [eqFr, eqHp, eqV, eqA, eqC, eqO, eqCs, eqAs, look_cons, look, rn, EK.cast, EK.sz, eqCaps]
                    · have e : x = u.length - i + 1 := by omega
                      subst e
                      repeat' (first | exact rfl | ((conv => whnf); first | ((first | refine qA (fun h => ?_) fun h => ?_ | refine qN (fun h => ?_) fun h => ?_ | refine qB (fun h => ?_) fun h => ?_ | refine qC (fun h => ?_) fun h => ?_) <;> try exact absurd h (by omega)) | refine qM (fun h => ?_) fun h => ?_ | refine oM (by (first | omega | (simp only [lenS, InI, nmin, EK.sz]; omega) | (simp only [lenS, InI, nmin, EK.sz] at *; omega))) ?_ | refine oM ?_ ?_ | refine bM ?_ ?_ | refine draw_of Try.mixed Try.tyOk 60 (by kernel_rfl) ?_ | intro _))
                      (conv => whnf)
                      refine ⟨(o + 1, m, T), [], ⟨by rfl, ?_, ?_⟩, ⟨by simp only; omega, htab, haw.done⟩, by simp only; omega⟩
                      · simp [eqFr, eqHp, eqV, eqA, eqC, eqO, eqCs, eqAs, look_cons, look, rn, EK.cast, EK.sz, eqCaps]
                      · simp [eqFr, eqHp, eqV, eqA, eqC, eqO, eqCs, eqAs, look_cons, look, rn, EK.cast, EK.sz, eqCaps]
            · have e : o = v.length + 1 := by omega
              subst e
              repeat' (first | exact rfl | ((conv => whnf); first | ((first | refine qA (fun h => ?_) fun h => ?_ | refine qN (fun h => ?_) fun h => ?_ | refine qB (fun h => ?_) fun h => ?_ | refine qC (fun h => ?_) fun h => ?_) <;> try exact absurd h (by omega)) | refine qM (fun h => ?_) fun h => ?_ | refine oM (by (first | omega | (simp only [lenS, InI, nmin, EK.sz]; omega) | (simp only [lenS, InI, nmin, EK.sz] at *; omega))) ?_ | refine oM ?_ ?_ | refine bM ?_ ?_ | refine draw_of Try.mixed Try.tyOk 60 (by kernel_rfl) ?_ | intro _))
              (conv => whnf)
              refine ⟨(i + 1, m, T), [], ⟨by rfl, ?_, ?_⟩, ⟨by simp only; omega, htab, hag.row⟩, by simp only; omega⟩
              · simp [eqFr, eqHp, eqV, eqA, eqC, eqO, eqCs, eqAs, look_cons, look, rn, EK.cast, EK.sz, eqCaps]
              · simp [eqFr, eqHp, eqV, eqA, eqC, eqO, eqCs, eqAs, look_cons, look, rn, EK.cast, EK.sz, eqCaps]
        · have e : i = u.length + 1 := by omega
          subst e
          have hn0 := (htab.hd u.length (by omega)).len
          have hr0 := htab.row u.length (by omega)
          have hl0 := rowT_len T (v.length + 1) u.length
          have hB := rowT_at T (j := u.length) (show v.length < v.length + 1 by omega)
          rw [← hr0] at hl0 hB
          rw [hl0] at hn0
          have e2 : 0 + (u.length : Int).toNat = u.length := by omega
          have e3 : (v.length : Int).toNat = v.length := by omega
          have hval : MinOf (Star (Wt F) u v) ((rowA m (rows.getD (0 + (u.length : Int).toNat) EK.sli.dflt).a).getD (v.length : Int).toNat EK.int.dflt) := by
            have h1 := (hag.weak).fin hP (Nat.le_refl _) (Nat.le_refl _)
            rw [List.take_length, List.take_length] at h1
            rw [e2, e3]
            have e : (rowA m (rows.getD u.length EK.sli.dflt).a).getD v.length EK.int.dflt = T u.length v.length := hB
            rw [e]
            exact h1.cong fun c => starR_iff
          rw [← e2] at hn0 hl0
          repeat' (first | exact rfl | ((conv => whnf); first | ((first | refine qA (fun h => ?_) fun h => ?_ | refine qN (fun h => ?_) fun h => ?_ | refine qB (fun h => ?_) fun h => ?_ | refine qC (fun h => ?_) fun h => ?_) <;> try exact absurd h (by omega)) | refine qM (fun h => ?_) fun h => ?_ | refine oM (by (first | omega | (simp only [lenS, InI, nmin, EK.sz]; omega) | (simp only [lenS, InI, nmin, EK.sz] at *; omega))) ?_ | refine oM ?_ ?_ | refine bM ?_ ?_ | refine draw_of Try.mixed Try.tyOk 60 (by kernel_rfl) ?_ | intro _))
          (conv => whnf)
          exact ⟨[], [], 4, .i ((rowA m (rows.getD (0 + (u.length : Int).toNat) EK.sli.dflt).a).getD (v.length : Int).toNat EK.int.dflt), ⟨by rfl, trivial, trivial⟩, by simp [eqV, eqA, eqC], _, hval, rfl, rfl⟩
end Go.Fw

namespace Go.Fw
open Go Go.Proofs

theorem one_edge {u v : List Int} {x y : Trip} {n : Nat} {w : Int} (h : Edge oneT u v x n y w) : n = 0 ∧ x.a = 0 ∧ w = 5 ∧ (fitE u x.b 1).2 = true ∧ (fitE v x.c 2).2 = true ∧ y = ⟨1, (fitE u x.b 1).1, (fitE v x.c 2).1⟩ := by
  obtain ⟨a, h1, h2, h3, h4, h5, h6⟩ := h
  have hn : n = 0 := by
    have := (List.getElem?_eq_some_iff.1 h1).1
    simp only [oneT, List.length_cons, List.length_nil] at this
    omega
  subst hn
  simp only [oneT, List.getElem?_cons_zero, Option.some.injEq] at h1
  subst h1
  exact ⟨rfl, h2.symm, h6, h3, h4, h5⟩

theorem one_reach {u v : List Int} {c : Int} {y : Trip} (h : Reach oneT u v (fromSt oneT) c y) : (y = ⟨0, 0, 0⟩ ∧ c = 0) ∨ (y = ⟨1, 1, 1⟩ ∧ c = 5 ∧ 0 < u.length) := by
  induction h with
  | here h => exact .inl ⟨h.1, h.2⟩
  | on hr he ih =>
    obtain ⟨_, h2, h3, h4, h5, h6⟩ := one_edge he
    rcases ih with ⟨rfl, rfl⟩ | ⟨rfl, _⟩
    · right
      refine ⟨?_, by omega, ?_⟩
      · rw [h6]
        rfl
      · unfold fitE at h4
        simp only [show (1 : Int) ≠ 0 by decide, if_false, decide_eq_true_eq] at h4
        omega
    · cases h2

theorem one_end {A : Trip → Option Int} (hA : IsLeast oneT [1] [2] (fromSt oneT) A) : A ⟨1, 1, 1⟩ = some 5 ∧ endF A [-1, 1] 1 1 2 = (⟨1, 1, 1⟩, 6) := by
  have h0 : Reach oneT [1] [2] (fromSt oneT) 0 ⟨0, 0, 0⟩ := .here ⟨rfl, rfl⟩
  have he : Edge oneT [1] [2] ⟨0, 0, 0⟩ 0 ⟨1, 1, 1⟩ 5 := ⟨⟨0, 1, 2, 1, 5⟩, rfl, rfl, rfl, rfl, rfl, rfl⟩
  have h1 : Reach oneT [1] [2] (fromSt oneT) (0 + 5) ⟨1, 1, 1⟩ := .on h0 he
  obtain ⟨c, h2, h3⟩ := hA.least _ _ h1
  have h4 : A ⟨1, 1, 1⟩ = some 5 := by
    rcases one_reach (hA.path _ _ h2) with ⟨q, _⟩ | ⟨_, q, _⟩
    · cases q
    · rw [h2, q]
  refine ⟨h4, ?_⟩
  have e1 : endF A [-1, 1] 1 1 1 = (⟨0, 0, 0⟩, -1) := by
    cases hd : A ⟨((0 : Nat) : Int), 1, 1⟩ with
    | none => exact endF_none hd
    | some d => exact endF_no hd (.inl rfl)
  have := endF_yes (D := A) (fin := [-1, 1]) (p := 1) (q := 1) (k := 1) (d := 5) h4 (by decide) (.inl (by rw [e1]))
  exact this

theorem one_nil {A : Trip → Option Int} (hA : IsLeast oneT [] [] (fromSt oneT) A) : (endF A [-1, 1] 0 0 2).2 = -1 := by
  have h4 : A ⟨((1 : Nat) : Int), 0, 0⟩ = none := by
    cases h : A ⟨((1 : Nat) : Int), 0, 0⟩ with
    | none => rfl
    | some c =>
      rcases one_reach (hA.path _ _ h) with ⟨q, _⟩ | ⟨q, _⟩
      · cases q
      · cases q
  have e1 : endF A [-1, 1] 0 0 1 = (⟨0, 0, 0⟩, -1) := by
    cases hd : A ⟨((0 : Nat) : Int), 0, 0⟩ with
    | none => exact endF_none hd
    | some d => exact endF_no hd (.inl rfl)
  rw [endF_none h4, e1]

theorem one_walk {E : Trip × Int} {l : List Int} (h : WalkIs oneT [1] [2] E l) : E.2 = 6 ∧ l = [0] := by
  obtain ⟨D, ord, rk, B, n, hD, hall, hE, hn, hl⟩ := h
  have h1 := one_end (hD.least hall)
  have hE2 : E = (⟨1, 1, 1⟩, 6) := hE.trans h1.2
  subst hE2
  refine ⟨rfl, ?_⟩
  obtain ⟨d, hd, _⟩ := Option.map_eq_some_iff.1 h1.1
  obtain ⟨m, rfl⟩ : ∃ m, n = m + 1 := ⟨n - 1, by omega⟩
  have key : chain D (m + 1) ⟨1, 1, 1⟩ = [0] := by
    rcases hD.by' _ d hd with ⟨q, _⟩ | ⟨k, x, c, w, g1, g2, g3, g4, g5, g6, g7, _, _⟩
    · cases q
    · obtain ⟨rfl, q2, q3, q4, q5, q6⟩ := one_edge g7
      have hx : x = ⟨0, 0, 0⟩ := by
        rcases one_reach ((hD.least hall).path x c.cost (by simp [g6])) with ⟨q, _⟩ | ⟨q, _⟩
        · exact q
        · rw [q] at q2; cases q2
      subst hx
      have e : (⟨d.s, d.i, d.o⟩ : Trip) = ⟨0, 0, 0⟩ := by rw [g2, g3, g4]
      rw [chain_on hd (by omega), g1, e]
      congr 1
      rcases hD.by' _ c g6 with ⟨_, _, q⟩ | ⟨k, x, c', w, _, _, _, _, _, _, q, _, _⟩
      · exact chain_stop g6 (by omega) m
      · have := (one_edge q).2.2.2.2.2
        cases this
  rw [key] at hl
  have := congrArg List.reverse hl
  rwa [List.reverse_reverse] at this

end Go.Fw

namespace Go.Fw
open Go Go.Proofs

theorem one_sc1 : scoreE oneT [1] [2] = 0 := by decide
theorem one_sc0 : scoreE oneT [] [] = 0 := by decide

set_option maxHeartbeats 8000000 in
set_option maxRecDepth 20000 in
theorem scoreBegun_c : Ct Try.prog 13 [] [] [] 0 (Is 0 (.b true)) := by
  refine ctW Try.tyOk 8 [] Try.func13 rfl (by simp) (by simp) (fr := []) rfl ?_
  repeat' (first | exact rfl | ((conv => whnf); first | ((first | refine qA (fun h => ?_) fun h => ?_ | refine qN (fun h => ?_) fun h => ?_ | refine qB (fun h => ?_) fun h => ?_ | refine qC (fun h => ?_) fun h => ?_) <;> try exact absurd h (by omega)) | refine qM (fun h => ?_) fun h => ?_ | refine oM (by (first | omega | (simp only [lenS, InI, nmin, EK.sz]; omega) | (simp only [lenS, InI, nmin, EK.sz] at *; omega))) ?_ | refine oM ?_ ?_ | refine bM ?_ ?_ | refine draw_of Try.mixed Try.tyOk 60 (by kernel_rfl) ?_))
  (conv => whnf)
  refine callF (one_c) [] Try.call55 rfl (by simp [eqLs, eqL, eqO, eqC, eqCs, rn, renOf, look_cons, look, EK.cast]) (by simp [appN, ptrs, eqVL, eqV, eqA, eqC, eqCs, eqAs, eqCaps, EK.sz, rn, renOf, look_cons, look, arcV, fV]) (by simp [appN, ptrs, SV.lt, SA.lt, SC.lt, arcV, fV, lenN]) ?_
  rintro _ _ ⟨rfl, rfl⟩
  (conv => whnf)
  refine callF (score_ok oneT [1] [2] 1 1 (by decide) one_sc1) [0, 1, 2, 3] Try.call10 rfl (by simp [eqLs, eqL, eqO, eqC, eqCs, rn, renOf, look_cons, look, EK.cast, oneT, oneV]) (by simp [appN, ptrs, eqVL, eqV, eqA, eqC, eqCs, eqAs, eqCaps, EK.sz, rn, renOf, look_cons, look, arcV, fV, oneT, oneV]) (by simp [appN, ptrs, SV.lt, SA.lt, SC.lt, arcV, fV, lenN]) ?_
  rintro _ _ ⟨A, hA, rfl, rfl⟩
  have hA2 := (one_end hA).2
  rw [show (endF A oneT.fin (([1] : List Int).length : Int) (([2] : List Int).length : Int) oneT.fin.length) = endF A [-1, 1] 1 1 2 from rfl, hA2]
  clear hA hA2
  repeat' (first | exact rfl | ((conv => whnf); first | ((first | refine qA (fun h => ?_) fun h => ?_ | refine qN (fun h => ?_) fun h => ?_ | refine qB (fun h => ?_) fun h => ?_ | refine qC (fun h => ?_) fun h => ?_) <;> try exact absurd h (by omega)) | refine qM (fun h => ?_) fun h => ?_ | refine oM (by (first | omega | (simp only [lenS, InI, nmin, EK.sz]; omega) | (simp only [lenS, InI, nmin, EK.sz] at *; omega))) ?_ | refine oM ?_ ?_ | refine bM ?_ ?_ | refine draw_of Try.mixed Try.tyOk 60 (by kernel_rfl) ?_))
  (conv => whnf)
  refine callF (one_c) [] Try.call55 rfl (by simp [eqLs, eqL, eqO, eqC, eqCs, rn, renOf, look_cons, look, EK.cast]) (by simp [appN, ptrs, eqVL, eqV, eqA, eqC, eqCs, eqAs, eqCaps, EK.sz, rn, renOf, look_cons, look, arcV, fV]) (by simp [appN, ptrs, SV.lt, SA.lt, SC.lt, arcV, fV, lenN]) ?_
  rintro _ _ ⟨rfl, rfl⟩
  (conv => whnf)
  refine callNil 3 .int (args' := [SV.a (SA.agg [SC.i 2, SC.i 0, SC.sl 4 1 0 2 2, SC.sl 5 5 0 1 1]), .c (.sl 6 1 0 0 0), .c (.v (.slice none 0 0))]) (fun β => by simp [SV.den, SA.den, SC.den, Env.add, appN, ptrs]) ?_
  (conv => whnf)
  refine callNil 3 .int (args' := [SV.a (SA.agg [SC.i 2, SC.i 0, SC.sl 4 1 0 2 2, SC.sl 5 5 0 1 1]), .c (.sl 6 1 0 0 0), .c (.sl 7 1 0 0 0)]) (fun β => by simp [SV.den, SA.den, SC.den, Env.add, appN, ptrs]) ?_
  (conv => whnf)
  refine callF (score_ok oneT [] [] 0 0 (by decide) one_sc0) [4, 5, 6, 7] Try.call10 rfl (by simp [eqLs, eqL, eqO, eqC, eqCs, rn, renOf, look_cons, look, EK.cast, oneT, oneV]) (by simp [appN, ptrs, eqVL, eqV, eqA, eqC, eqCs, eqAs, eqCaps, EK.sz, rn, renOf, look_cons, look, arcV, fV, oneT, oneV]) (by simp [appN, ptrs, SV.lt, SA.lt, SC.lt, arcV, fV, lenN]) ?_
  rintro _ _ ⟨A, hA, rfl, rfl⟩
  have hA2 := one_nil hA
  rw [show (endF A oneT.fin (([] : List Int).length : Int) (([] : List Int).length : Int) oneT.fin.length).2 = (endF A [-1, 1] 0 0 2).2 from rfl, hA2]
  clear hA hA2
  repeat' (first | exact rfl | ((conv => whnf); first | ((first | refine qA (fun h => ?_) fun h => ?_ | refine qN (fun h => ?_) fun h => ?_ | refine qB (fun h => ?_) fun h => ?_ | refine qC (fun h => ?_) fun h => ?_) <;> try exact absurd h (by omega)) | refine qM (fun h => ?_) fun h => ?_ | refine oM (by (first | omega | (simp only [lenS, InI, nmin, EK.sz]; omega) | (simp only [lenS, InI, nmin, EK.sz] at *; omega))) ?_ | refine oM ?_ ?_ | refine bM ?_ ?_ | refine draw_of Try.mixed Try.tyOk 60 (by kernel_rfl) ?_))
  (conv => whnf)
  refine callF (one_c) [] Try.call55 rfl (by simp [eqLs, eqL, eqO, eqC, eqCs, rn, renOf, look_cons, look, EK.cast]) (by simp [appN, ptrs, eqVL, eqV, eqA, eqC, eqCs, eqAs, eqCaps, EK.sz, rn, renOf, look_cons, look, arcV, fV]) (by simp [appN, ptrs, SV.lt, SA.lt, SC.lt, arcV, fV, lenN]) ?_
  rintro _ _ ⟨rfl, rfl⟩
  (conv => whnf)
  refine callF (walkP_c oneT [1] [2] 1 1 (by decide) one_sc1) [8, 9, 10, 11] Try.call56 rfl (by simp [eqLs, eqL, eqO, eqC, eqCs, rn, renOf, look_cons, look, EK.cast, oneT, oneV]) (by simp [appN, ptrs, eqVL, eqV, eqA, eqC, eqCs, eqAs, eqCaps, EK.sz, rn, renOf, look_cons, look, arcV, fV, oneT, oneV]) (by simp [appN, ptrs, SV.lt, SA.lt, SC.lt, arcV, fV, lenN]) ?_
  rintro x s (⟨A, hA, hA2, _⟩ | ⟨E, l, sp, hW, hE, rfl, rfl⟩)
  · have h1 := (one_end hA).2
    have h2 : (endF A [-1, 1] 1 1 2).2 = -1 := hA2
    rw [h1] at h2
    cases h2
  obtain ⟨h1, rfl⟩ := one_walk hW
  rw [h1]
  clear hW hE h1
  repeat' (first | exact rfl | ((conv => whnf); first | ((first | refine qA (fun h => ?_) fun h => ?_ | refine qN (fun h => ?_) fun h => ?_ | refine qB (fun h => ?_) fun h => ?_ | refine qC (fun h => ?_) fun h => ?_) <;> try exact absurd h (by omega)) | refine qM (fun h => ?_) fun h => ?_ | refine oM (by (first | omega | (simp only [lenS, InI, nmin, EK.sz]; omega) | (simp only [lenS, InI, nmin, EK.sz] at *; omega))) ?_ | refine oM ?_ ?_ | refine bM ?_ ?_ | refine draw_of Try.mixed Try.tyOk 60 (by kernel_rfl) ?_))
  (conv => whnf)
  refine callF (word_c [1] 1) [13] Try.call14 rfl (by simp [eqLs, eqL, eqO, eqC, eqCs, rn, renOf, look_cons, look, EK.cast]) (by simp [appN, ptrs, eqVL, eqV, eqA, eqC, eqCs, eqAs, eqCaps, EK.sz, rn, renOf, look_cons, look, arcV, fV]) (by simp [appN, ptrs, SV.lt, SA.lt, SC.lt, arcV, fV, lenN]) ?_
  rintro _ _ ⟨rfl, rfl⟩
  rw [show wordE [1] = 0 by decide]
  repeat' (first | exact rfl | ((conv => whnf); first | ((first | refine qA (fun h => ?_) fun h => ?_ | refine qN (fun h => ?_) fun h => ?_ | refine qB (fun h => ?_) fun h => ?_ | refine qC (fun h => ?_) fun h => ?_) <;> try exact absurd h (by omega)) | refine qM (fun h => ?_) fun h => ?_ | refine oM (by (first | omega | (simp only [lenS, InI, nmin, EK.sz]; omega) | (simp only [lenS, InI, nmin, EK.sz] at *; omega))) ?_ | refine oM ?_ ?_ | refine bM ?_ ?_ | refine draw_of Try.mixed Try.tyOk 60 (by kernel_rfl) ?_))
  refine Back.is ?_
  simp only [eqV, eqA, eqC]
  rfl

end Go.Fw
