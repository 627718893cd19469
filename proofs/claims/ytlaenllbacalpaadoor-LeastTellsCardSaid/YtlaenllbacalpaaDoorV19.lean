/- Walks of the functions: what each computes. -/
import Derived.Test.YtlaenllbacalpaaDoorV15
import Derived.Test.YtlaenllbacalpaaDoorV16
import Derived.Test.YtlaenllbacalpaaDoorV18
import Derived.Test.YtlaenllbacalpaaDoorV09
import Derived.Test.YtlaenllbacalpaaDoorV17
import Derived.Test.YtlaenllbacalpaaDoorV05
import Derived.Test.YtlaenllbacalpaaDoorV10
import Derived.Test.YtlaenllbacalpaaDoorV14

set_option linter.unusedSimpArgs false
set_option linter.unusedVariables false

namespace Go.Fw
open Go Go.Proofs

/-- What Least says is wrong before it begins. -/
def leastE (F : TF) : Int := if fstE F ≠ 0 then fstE F else if 12 < F.st then 2 else if fineB F = true then 0 else 4

/-- What is least. -/
def IsLs (U : TF) (st : DS) (n : Nat) (ff : List Int) (oo : List Arc) : Prop :=
  (¬ (∃ w c, CW U U.start w c) ∧ n = 1 ∧ ff = [-1] ∧ oo = []) ∨
  ((∃ w c, CW U U.start w c) ∧ ∃ c1 c2 cls left outs, ClsOk (phT (mkD U st 0 0) c1 c2) cls ∧ mgRows (phT (mkD U st 0 0) c1 c2) cls left.length = (left, outs) ∧
    (∀ j, j < left.length → j < (mgRows (phT (mkD U st 0 0) c1 c2) cls j).1.length) ∧ MgI (phT (mkD U st 0 0) c1 c2) cls (left, outs) ∧ n = left.length ∧ ff = adF (dsD U st 0) (left.map (fiA (phT (mkD U st 0 0) c1 c2))) ∧ oo = outs.map (adA (dsD U st 0)))

/-- What Least answers. -/
def LeastPost (F : TF) (x : Obj) (v : SV) (s : S) : Prop :=
  (leastE F ≠ 0 ∧ v = .tup [.agg zero25, .c (.i (leastE F))] ∧ s = ⟨[], [(2, tabO x)], 3⟩) ∨
  (leastE F = 0 ∧ ∃ U, IsUs F U ∧
    ((200 < bgnF U 201 200 [⟨U.start, 0⟩] ∧ v = .tup [.agg zero25, .c (.i 2)] ∧ s = ⟨[], [(2, tabO x)], 3⟩) ∨
     (bgnF U 201 200 [⟨U.start, 0⟩] ≤ 200 ∧ ∃ st : DS, MDone U st ∧ ∃ n ff oo, IsLs U st n ff oo ∧
       ((greatB oo ff = true ∧ v = .tup [.agg zero25, .c (.i 2)] ∧ s = ⟨[], [(2, tabO x)], 3⟩) ∨
        (greatB oo ff = false ∧ ∃ sp sq, v = .tup [.agg [.i (n : Nat), .i 0, .sl 3 1 0 ff.length (ff.length + sp), .sl 4 5 0 oo.length (oo.length + sq)], .c (.i 0)] ∧
          s = ⟨[], [(2, tabO x), (3, .arr true 3 .int ff sp), (4, .arr true 50 .arc oo sq)], 5⟩)))))

set_option maxHeartbeats 16000000 in
set_option maxRecDepth 20000 in
theorem least_c (F : TF) (hl : F.fin.length ≤ 9223372036854775807) (x : Obj) (hx : TabX x) : Ct Tryd.prog 46 [fV F] [] (hpF F ++ [(2, tabO x)]) 3 (LeastPost F x) := by
  by_cases h : fstE F = 0
  · have hF := fstE_ok h
    have hst := hF.st
    have hss := hF.start
    by_cases h12 : 12 < F.st
    · have hd : leastE F = 2 := by unfold leastE; rw [if_neg (fun c => c h), if_pos h12]
      refine ctW Tryd.tyOk 10 [] Tryd.func46 rfl (by simp) (by simp) (fr := [(0, fV F)]) rfl ?_
      repeat' (first | exact rfl | ((conv => whnf); first | (refine qX (fun h => ?_) fun h => ?_ <;> try exact absurd h (by omega)) | refine oN ?_ | refine oM ?_ ?_ | refine bM ?_ ?_ | refine dR ?_))
      refine cI (check_c F hl) [0, 1] Tryd.call29 ?_
      rw [h]
      repeat' (first | exact rfl | ((conv => whnf); first | (refine qX (fun h => ?_) fun h => ?_ <;> try exact absurd h (by omega)) | refine oN ?_ | refine oM ?_ ?_ | refine bM ?_ ?_ | refine dR ?_))
      all_goals
        first
        | (exfalso; omega)
        | ((conv => whnf)
           exact ⟨[], [(2, tabO x)], 3, .tup [.agg zero25, .c (.i 2)], ⟨by rfl, trivial, by simp⟩, by simp, .inl ⟨by rw [hd]; decide, by rw [hd], rfl⟩⟩)
    · by_cases hf : fineB F = true
      · have hd : leastE F = 0 := by unfold leastE; rw [if_neg (fun c => c h), if_neg h12, if_pos hf]
        refine ctW Tryd.tyOk 10 [] Tryd.func46 rfl (by simp) (by simp) (fr := [(0, fV F)]) rfl ?_
        repeat' (first | exact rfl | ((conv => whnf); first | (refine qX (fun h => ?_) fun h => ?_ <;> try exact absurd h (by omega)) | refine oN ?_ | refine oM ?_ ?_ | refine bM ?_ ?_ | refine dR ?_))
        refine cI (check_c F hl) [0, 1] Tryd.call29 ?_
        rw [h]
        repeat' (first | exact rfl | ((conv => whnf); first | (refine qX (fun h => ?_) fun h => ?_ <;> try exact absurd h (by omega)) | refine oN ?_ | refine oM ?_ ?_ | refine bM ?_ ?_ | refine dR ?_))
        all_goals try (exfalso; omega)
        (conv => whnf)
        refine cI (fine_c F (FRng.of hF)) [0, 1] Tryd.call36 ?_
        rw [hf]
        repeat' (first | exact rfl | ((conv => whnf); first | (refine qX (fun h => ?_) fun h => ?_ <;> try exact absurd h (by omega)) | refine oN ?_ | refine oM ?_ ?_ | refine bM ?_ ?_ | refine dR ?_))
        (conv => whnf)
        refine cF (made_c F (WOk.of hF) (by omega) (by omega) x hx) [0, 1, 2] Tryd.call37 ?_
        rintro v s ⟨U, hus, ⟨h1, rfl, rfl⟩ | ⟨h1, st, hmd, sp, sq, rfl, rfl⟩⟩
        · simp only [Nat.reduceAdd, Nat.reduceSub]
          repeat' (first | exact rfl | ((conv => whnf); first | (refine qX (fun h => ?_) fun h => ?_ <;> try exact absurd h (by omega)) | refine oN ?_ | refine oM ?_ ?_ | refine bM ?_ ?_ | refine dR ?_ | intro _))
          (conv => whnf)
          exact ⟨[], [(2, tabO x)], 3, .tup [.agg zero25, .c (.i 2)], ⟨by rfl, trivial, by simp⟩, by simp, .inr ⟨hd, U, hus, .inl ⟨h1, rfl, rfl⟩⟩⟩
        · have hD : DetH F U st := ⟨hF, hf, hus, h1, hmd⟩
          have hle : F.st ≤ 12 := by omega
          have hB := fun cf ca => (hD.fokB hle cf ca).1
          obtain ⟨_, hs1, hs2⟩ := hD.small
          have hdec : ∀ v s, (∃ n ff oo, IsLs U st n ff oo ∧ ((greatB oo ff = true ∧ v = .tup [.agg zero25, .c (.i 2)] ∧ s = ⟨[], [(2, tabO x)], 3⟩) ∨
              (greatB oo ff = false ∧ ∃ sp sq, v = .tup [.agg [.i (n : Nat), .i 0, .sl 3 1 0 ff.length (ff.length + sp), .sl 4 5 0 oo.length (oo.length + sq)], .c (.i 0)] ∧
              s = ⟨[], [(2, tabO x), (3, .arr true 3 .int ff sp), (4, .arr true 50 .arc oo sq)], 5⟩))) → LeastPost F x v s := fun v s hp => .inr ⟨hd, U, hus, .inr ⟨h1, st, hmd, hp⟩⟩
          by_cases hn : ∃ w c, CW U U.start w c
          · have c63 : ∀ cf ca, Ct Tryd.prog 63 [.a (.agg [.i (st.1.length : Nat), .i 0, .sl 0 1 0 (st.1.map (finD U)).length cf, .sl 1 5 0 st.2.length ca])] [] [(0, .arr false 3 .int (st.1.map (finD U)) 0), (1, .arr false 50 .arc st.2 0)] 2 (OutPost (st.1.length : Nat) 0 (st.1.map (finD U)) st.2 2) := fun cf ca =>
              (useful_c (mkD U st cf ca) (FRng.ofB (hB cf ca)) (hB cf ca).start).to fun v s ⟨p, hp, ho⟩ => by rw [hD.all hle hn hp] at ho; exact ho
            have d0 := dsD_is hD hle hn (q := 0) (by have := hD.ri.len; omega)
            have c73 : ∀ cf ca, Ct Tryd.prog 73 [.a (.agg [.i (st.1.length : Nat), .i 0, .sl 0 1 0 (st.1.map (finD U)).length cf, .sl 1 5 0 st.2.length ca])] [] [(0, .arr false 3 .int (st.1.map (finD U)) 0), (1, .arr false 50 .arc st.2 0)] 2
                (fun v s => ∃ sp sp', v = .tup [.agg [.i (st.1.length : Nat), .i 0, .sl 2 1 0 (st.1.map (finD U)).length ((st.1.map (finD U)).length + sp), .sl 3 5 0 (phT (mkD U st 0 0) 0 0).arcs.length ((phT (mkD U st 0 0) 0 0).arcs.length + sp')], .c (.i (dsD U st 0))] ∧
                  s = ⟨[], [(2, .arr true 3 .int (phT (mkD U st 0 0) 0 0).fin sp), (3, .arr true 50 .arc (phT (mkD U st 0 0) 0 0).arcs sp')], 4⟩) := fun cf ca =>
              (pushed_cB (mkD U st cf ca) (hB cf ca)).to fun v s hp => by
                have : ¬ (onS (mkD U st cf ca)).1.getD (mkD U st cf ca).start.toNat 0 = -1 := fun e => by
                  have e : dsD U st 0 = -1 := e
                  omega
                rw [if_neg this] at hp
                exact hp
            have hX := fun c1 c2 => ph_dfst (hB 0 0) (c1 := c1) (c2 := c2) fun q hq => by
              have hq : q < ((st.1.length : Nat) : Int).toNat := hq
              have := dsD_is hD hle hn (q := q) (by omega)
              unfold dsD at this
              omega
            have hXr := fun c1 c2 => ph_round (c1 := c1) (c2 := c2) (hD.round 0 0)
            have c75 : ∀ c1 c2, Ct Tryd.prog 75 [.a (.agg [.i (st.1.length : Nat), .i 0, .sl 0 1 0 (phT (mkD U st 0 0) 0 0).fin.length c1, .sl 1 5 0 (phT (mkD U st 0 0) 0 0).arcs.length c2])] [] [(0, .arr false 3 .int (phT (mkD U st 0 0) 0 0).fin 0), (1, .arr false 50 .arc (phT (mkD U st 0 0) 0 0).arcs 0), (2, tabO x)] 3
                (fun v s => ∃ cls, ClsOk (phT (mkD U st 0 0) c1 c2) cls ∧ v = .c (.sl 3 1 0 cls.length cls.length) ∧ s = ⟨[], [(2, tabO x), (3, .arr true 3 .int cls 0)], 4⟩) := fun c1 c2 =>
              classes_c (phT (mkD U st 0 0) c1 c2) (hX c1 c2) (hXr c1 c2) x hx
            have c76 : ∀ c1 c2 cls, ClsOk (phT (mkD U st 0 0) c1 c2) cls → Ct Tryd.prog 76 [.c (.ptr 2 0), .i (dsD U st 0)] [] [(0, .arr false 3 .int (phT (mkD U st 0 0) 0 0).fin 0), (1, .arr false 50 .arc (phT (mkD U st 0 0) 0 0).arcs 0), (2, .box 101 [.i (st.1.length : Nat), .i 0, .sl 0 1 0 (phT (mkD U st 0 0) 0 0).fin.length c1, .sl 1 5 0 (phT (mkD U st 0 0) 0 0).arcs.length c2, .sl 3 1 0 cls.length cls.length, .mp 4, .v (.slice none 0 0), .i 0, .i 0, .v (.slice none 0 0), .v (.slice none 0 0)]), (3, .arr false 3 .int cls 0), (4, .map .int .int [] 0)] 5
                (fun v s => ∃ n ff oo, IsLs U st n ff oo ∧ n ≤ 100000 ∧ ff.length ≤ 100000 ∧ oo.length ≤ 9223372036854775807 ∧ ∃ fsp asp, v = .a (.agg [.i (n : Nat), .i 0, .sl 5 1 0 ff.length (ff.length + fsp), .sl 6 5 0 oo.length (oo.length + asp)]) ∧ s = ⟨[], [(5, .arr true 3 .int ff fsp), (6, .arr true 50 .arc oo asp)], 7⟩) := fun c1 c2 cls hc =>
              (merge_c (phT (mkD U st 0 0) c1 c2) (hX c1 c2) ⟨Int.le_refl _, by show (0 : Int) < ((st.1.length : Nat) : Int); have := hD.ri.len; omega⟩ cls cls.length hc.len hc.bd (dsD U st 0) (by omega)).to fun v s ⟨left, outs, fsp, asp, m1, m2, m3, m4, m5⟩ =>
                ⟨left.length, _, _, .inr ⟨hn, c1, c2, cls, left, outs, hc, m1, m2, m3, rfl, rfl, rfl⟩, by
                  have := m3.le (hX c1 c2).st.1 hc.bd
                  have e : (phT (mkD U st 0 0) c1 c2).st = ((st.1.length : Nat) : Int) := rfl
                  simp only at this
                  omega, by
                  have := m3.le (hX c1 c2).st.1 hc.bd
                  have e : (phT (mkD U st 0 0) c1 c2).st = ((st.1.length : Nat) : Int) := rfl
                  have e2 : (adF (dsD U st 0) (left.map (fiA (phT (mkD U st 0 0) c1 c2)))).length = left.length := by unfold adF; split <;> simp
                  simp only at this
                  omega, by
                  have hk : ∀ k, (mgRows (phT (mkD U st 0 0) c1 c2) cls k).2.length ≤ k * (phT (mkD U st 0 0) c1 c2).arcs.length := fun k => by
                    induction k with
                    | zero => simp [mgRows]
                    | succ k ih =>
                      have := (mgP_len (D := phT (mkD U st 0 0) c1 c2) (cls := cls) (i := k) (s := (mgRows (phT (mkD U st 0 0) c1 c2) cls k).1.getD k 0) (st := mgRows (phT (mkD U st 0 0) c1 c2) cls k) (phT (mkD U st 0 0) c1 c2).arcs.length).1
                      show (mgP _ _ _ _ _ _).2.length ≤ _
                      rw [Nat.succ_mul]
                      omega
                  have h2 := hk left.length
                  rw [m1] at h2
                  have h3 := m3.le (hX c1 c2).st.1 hc.bd
                  have e : (phT (mkD U st 0 0) c1 c2).st = ((st.1.length : Nat) : Int) := rfl
                  simp only at h2 h3
                  have h4 : left.length * (phT (mkD U st 0 0) c1 c2).arcs.length ≤ 200 * (phT (mkD U st 0 0) c1 c2).arcs.length := Nat.mul_le_mul_right _ (by omega)
                  have h5 := (hX c1 c2).arc1
                  rw [List.length_map]
                  omega, fsp, asp, m4, m5⟩
            have hpl : (phT (mkD U st 0 0) 0 0).fin.length = (st.1.map (finD U)).length := pushF_len _ _ _
            have hfl : (st.1.map (finD U)).length ≤ 200 := by rw [List.length_map]; omega
            have hal : (phT (mkD U st 0 0) 0 0).arcs.length ≤ 10000 := (hX 0 0).arc1
            clear hX hXr hB
            generalize (phT (mkD U st 0 0) 0 0).fin = pf at *
            generalize (phT (mkD U st 0 0) 0 0).arcs = pl at *
            simp only [hpl] at c75 c76
            generalize hcl : ClsOk = CO at *
            clear hcl
            generalize st.1.map (finD U) = fins at *
            generalize ((st.1.length : Nat) : Int) = nst at *
            generalize st.2 = raw at *
            generalize dsD U st 0 = more at *
            simp only [Nat.reduceAdd, Nat.reduceSub]
            repeat' (first | exact rfl | ((conv => whnf); first | (refine qX (fun h => ?_) fun h => ?_ <;> try exact absurd h (by omega)) | refine oN ?_ | refine oM ?_ ?_ | refine bM ?_ ?_ | refine dR ?_ | intro _))
            (conv => whnf)
            refine cF (c63 (fins.length + sp) (raw.length + sq)) [5, 6] Tryd.call63 ?_
            rintro _ _ ⟨sp1, sq1, rfl, rfl⟩
            simp only [Nat.reduceAdd, Nat.reduceSub]
            repeat' (first | exact rfl | ((conv => whnf); first | (refine qX (fun h => ?_) fun h => ?_ <;> try exact absurd h (by omega)) | refine oN ?_ | refine oM ?_ ?_ | refine bM ?_ ?_ | refine dR ?_ | intro _))
            (conv => whnf)
            simp only [Nat.reduceAdd, Nat.reduceSub]
            refine cF (c73 (fins.length + sp1) (raw.length + sq1)) [8, 9] Tryd.call73 ?_
            rintro _ _ ⟨sp2, sq2, rfl, rfl⟩
            try simp only [Nat.reduceAdd, Nat.reduceSub]
            repeat' (first | exact rfl | ((conv => whnf); first | (refine qX (fun h => ?_) fun h => ?_ <;> try exact absurd h (by omega)) | refine oN ?_ | refine oM ?_ ?_ | refine bM ?_ ?_ | refine dR ?_ | intro _))
            all_goals
              (conv => whnf)
              simp only [Nat.reduceAdd, Nat.reduceSub]
              refine cF (c75 (fins.length + sp2) (pl.length + sq2)) [10, 11, 2] Tryd.call75 ?_
              rintro _ _ ⟨cls, hcls, rfl, rfl⟩
              repeat' (first | exact rfl | ((conv => whnf); first | (refine qX (fun h => ?_) fun h => ?_ <;> try exact absurd h (by omega)) | refine oN ?_ | refine oM ?_ ?_ | refine bM ?_ ?_ | refine dR ?_ | intro _))
              (conv => whnf)
              try simp only [Nat.reduceAdd, Nat.reduceSub]
            refine cF (c76 (fins.length + sp2) (pl.length + sq2) cls hcls) [10, 11, 14, 12, 13] Tryd.call76 ?_
            rotate_left
            refine cF (c76 (fins.length + sp2) (pl.length + sq2) cls hcls) [10, 11, 14, 13, 12] Tryd.call76 ?_
            rotate_left
            all_goals
              rintro _ _ ⟨n, ff, oo, hls, hn1, hf1, ho1, fsp, asp, rfl, rfl⟩
              repeat' (first | exact rfl | ((conv => whnf); first | (refine qX (fun h => ?_) fun h => ?_ <;> try exact absurd h (by omega)) | refine oN ?_ | refine oM ?_ ?_ | refine bM ?_ ?_ | refine dR ?_ | intro _))
              (conv => whnf)
              try simp only [Nat.reduceAdd, Nat.reduceSub]
              have hgc := great_c ⟨(n : Nat), 0, ff, oo, ff.length + fsp, oo.length + asp⟩ ho1 (by simp only; omega)
              refine cI (hgc) [15, 16] Tryd.call38 ?_
              simp only
              cases hg : greatB oo ff with
              | true =>
                repeat' (first | exact rfl | ((conv => whnf); first | (refine qX (fun h => ?_) fun h => ?_ <;> try exact absurd h (by omega)) | refine oN ?_ | refine oM ?_ ?_ | refine bM ?_ ?_ | refine dR ?_))
                (conv => whnf)
                exact ⟨[], [(2, tabO x)], 3, .tup [.agg zero25, .c (.i 2)], ⟨by rfl, trivial, by simp⟩, by simp, hdec _ _ ⟨n, ff, oo, hls, .inl ⟨hg, rfl, rfl⟩⟩⟩
              | false =>
                repeat' (first | exact rfl | ((conv => whnf); first | (refine qX (fun h => ?_) fun h => ?_ <;> try exact absurd h (by omega)) | refine oN ?_ | refine oM ?_ ?_ | refine bM ?_ ?_ | refine dR ?_))
                (conv => whnf)
                exact ⟨[(3, some 15), (4, some 16)], [(2, tabO x), (3, .arr true 3 .int ff fsp), (4, .arr true 50 .arc oo asp)], 5, .tup [.agg [.i (n : Nat), .i 0, .sl 3 1 0 ff.length (ff.length + fsp), .sl 4 5 0 oo.length (oo.length + asp)], .c (.i 0)], ⟨by rfl, trivial, by simp⟩, by simp, hdec _ _ ⟨n, ff, oo, hls, .inr ⟨hg, fsp, asp, rfl, rfl⟩⟩⟩
          · have c63 : ∀ cf ca, Ct Tryd.prog 63 [.a (.agg [.i (st.1.length : Nat), .i 0, .sl 0 1 0 (st.1.map (finD U)).length cf, .sl 1 5 0 st.2.length ca])] [] [(0, .arr false 3 .int (st.1.map (finD U)) 0), (1, .arr false 50 .arc st.2 0)] 2 (fun v s => ∃ ts tr tf ta, OutPost ts tr tf ta 2 v s ∧
                ∀ c1 c2, FOkB ⟨ts, tr, tf, ta, c1, c2⟩ ∧ (onS ⟨ts, tr, tf, ta, c1, c2⟩).1.getD tr.toNat 0 = -1) := fun cf ca =>
              (useful_c (mkD U st cf ca) (FRng.ofB (hB cf ca)) (hB cf ca).start).to fun v s ⟨p, hp, ho⟩ => ⟨_, _, _, _, ho, fun c1 c2 => ⟨kT_okB (hB cf ca) p c1 c2, hD.none hle hn hp c1 c2⟩⟩
            have hls : IsLs U st 1 [-1] [] := .inl ⟨hn, rfl, rfl, rfl⟩
            clear hB
            generalize st.1.map (finD U) = fins at *
            generalize ((st.1.length : Nat) : Int) = nst at *
            generalize st.2 = raw at *
            simp only [Nat.reduceAdd, Nat.reduceSub]
            repeat' (first | exact rfl | ((conv => whnf); first | (refine qX (fun h => ?_) fun h => ?_ <;> try exact absurd h (by omega)) | refine oN ?_ | refine oM ?_ ?_ | refine bM ?_ ?_ | refine dR ?_ | intro _))
            (conv => whnf)
            simp only [Nat.reduceAdd, Nat.reduceSub]
            refine cF (c63 (fins.length + sp) (raw.length + sq)) [5, 6] Tryd.call63 ?_
            rintro _ _ ⟨ts, tr, tf, ta, ⟨sp1, sq1, rfl, rfl⟩, hT⟩
            obtain ⟨hT1, hT2⟩ := hT (tf.length + sp1) (ta.length + sq1)
            have hpu := pushed_cB ⟨ts, tr, tf, ta, tf.length + sp1, ta.length + sq1⟩ hT1
            simp only [hT2, if_pos] at hpu
            clear hT hT2
            simp only [Nat.reduceAdd, Nat.reduceSub]
            repeat' (first | exact rfl | ((conv => whnf); first | (refine qX (fun h => ?_) fun h => ?_ <;> try exact absurd h (by omega)) | refine oN ?_ | refine oM ?_ ?_ | refine bM ?_ ?_ | refine dR ?_ | intro _))
            (conv => whnf)
            refine cF (hpu) [8, 9] Tryd.call73 ?_
            rintro _ _ ⟨sp2, rfl, rfl⟩
            repeat' (first | exact rfl | ((conv => whnf); first | (refine qX (fun h => ?_) fun h => ?_ <;> try exact absurd h (by omega)) | refine oN ?_ | refine oM ?_ ?_ | refine bM ?_ ?_ | refine dR ?_ | intro _))
            (conv => whnf)
            refine cF (nothing_c) [] Tryd.call74 ?_
            rintro _ _ ⟨sp3, sq3, rfl, rfl⟩
            repeat' (first | exact rfl | ((conv => whnf); first | (refine qX (fun h => ?_) fun h => ?_ <;> try exact absurd h (by omega)) | refine oN ?_ | refine oM ?_ ?_ | refine bM ?_ ?_ | refine dR ?_ | intro _))
            (conv => whnf)
            simp only [Nat.reduceAdd, Nat.reduceSub]
            exact ⟨[(3, some 11), (4, some 12)], [(2, tabO x), (3, .arr true 3 .int [-1] sp3), (4, .arr true 50 .arc [] sq3)], 5, .tup [.agg [.i ((1 : Nat) : Int), .i 0, .sl 3 1 0 ([-1] : List Int).length (([-1] : List Int).length + sp3), .sl 4 5 0 ([] : List Arc).length (([] : List Arc).length + sq3)], .c (.i 0)], ⟨by rfl, trivial, by simp⟩, by simp, hdec _ _ ⟨1, [-1], [], hls, .inr ⟨by decide, sp3, sq3, rfl, rfl⟩⟩⟩
      · have hd : leastE F = 4 := by unfold leastE; rw [if_neg (fun c => c h), if_neg h12, if_neg hf]
        have hf2 : fineB F = false := by simpa using hf
        refine ctW Tryd.tyOk 10 [] Tryd.func46 rfl (by simp) (by simp) (fr := [(0, fV F)]) rfl ?_
        repeat' (first | exact rfl | ((conv => whnf); first | (refine qX (fun h => ?_) fun h => ?_ <;> try exact absurd h (by omega)) | refine oN ?_ | refine oM ?_ ?_ | refine bM ?_ ?_ | refine dR ?_))
        refine cI (check_c F hl) [0, 1] Tryd.call29 ?_
        rw [h]
        repeat' (first | exact rfl | ((conv => whnf); first | (refine qX (fun h => ?_) fun h => ?_ <;> try exact absurd h (by omega)) | refine oN ?_ | refine oM ?_ ?_ | refine bM ?_ ?_ | refine dR ?_))
        all_goals try (exfalso; omega)
        (conv => whnf)
        refine cI (fine_c F (FRng.of hF)) [0, 1] Tryd.call36 ?_
        rw [hf2]
        repeat' (first | exact rfl | ((conv => whnf); first | (refine qX (fun h => ?_) fun h => ?_ <;> try exact absurd h (by omega)) | refine oN ?_ | refine oM ?_ ?_ | refine bM ?_ ?_ | refine dR ?_))
        (conv => whnf)
        exact ⟨[], [(2, tabO x)], 3, .tup [.agg zero25, .c (.i 4)], ⟨by rfl, trivial, by simp⟩, by simp, .inl ⟨by rw [hd]; decide, by rw [hd], rfl⟩⟩
  · have hd : leastE F = fstE F := by unfold leastE; rw [if_pos h]
    refine ctW Tryd.tyOk 10 [] Tryd.func46 rfl (by simp) (by simp) (fr := [(0, fV F)]) rfl ?_
    repeat' (first | exact rfl | ((conv => whnf); first | (refine qX (fun h => ?_) fun h => ?_ <;> try exact absurd h (by omega)) | refine oN ?_ | refine oM ?_ ?_ | refine bM ?_ ?_ | refine dR ?_))
    refine cI (check_c F hl) [0, 1] Tryd.call29 ?_
    repeat' (first | exact rfl | ((conv => whnf); first | (refine qX (fun h => ?_) fun h => ?_ <;> try exact absurd h (by omega)) | refine oN ?_ | refine oM ?_ ?_ | refine bM ?_ ?_ | refine dR ?_))
    all_goals
      first
      | (exfalso; omega)
      | ((conv => whnf)
         exact ⟨[], [(2, tabO x)], 3, .tup [.agg zero25, .c (.i (fstE F))], ⟨by rfl, trivial, by simp⟩, by simp, .inl ⟨by rw [hd]; exact h, by rw [hd], rfl⟩⟩)
end Go.Fw

/-
  What score tells is the least of all ways.
-/
namespace Go.Fw
open Go Go.Proofs

theorem fitE_take {l : List Int} {p x : Int} (hp : 0 ≤ p ∧ p ≤ l.length) (h : (fitE l p x).2 = true) : l.take (fitE l p x).1.toNat = l.take p.toNat ++ lab x := by
  unfold fitE lab at *
  by_cases e : x = 0
  · simp [if_pos e]
  · rw [if_neg e] at h ⊢
    rw [if_neg e]
    simp only [decide_eq_true_eq] at h ⊢
    have h1 : (p + 1).toNat = p.toNat + 1 := by omega
    rw [h1, take_succ_getD l p.toNat 0 (by omega), h.2]

section
variable {F : TF} {u v : List Int}

theorem Reach.way (hF : FOk F) {c : Int} {y : Trip} (h : Reach F u v (fromSt F) c y) : InBox F u v y ∧ Way F.arcs F.start (u.take y.b.toNat) (v.take y.c.toNat) y.a c := by
  induction h with
  | here h =>
    obtain ⟨rfl, rfl⟩ := h
    have := hF.start
    refine ⟨⟨this, ⟨Int.le_refl _, ?_⟩, ⟨Int.le_refl _, ?_⟩⟩, .nil _⟩ <;> (show (0 : Int) ≤ _; omega)
  | on h he ih =>
    obtain ⟨hx, hw⟩ := ih
    have hb := he.box hF hx
    refine ⟨hb, ?_⟩
    obtain ⟨a, h1, h2, h3, h4, rfl, rfl⟩ := he
    have ha := List.mem_of_getElem? h1
    rw [← h2] at hw
    simp only
    rw [fitE_take hx.2.1 h3, fitE_take hx.2.2 h4]
    exact hw.snoc ha

end

end Go.Fw

namespace Go.Fw
open Go Go.Proofs

/-- What score answers, whatever it is handed. -/
def ScoreP (F : TF) (u v : List Int) (n : Int) : Prop := (scoreE F u v = 0 → MinOf (Wt F u v) n ∧ n ≤ 1000001000000000) ∧ (scoreE F u v ≠ 0 → n = 0)

end Go.Fw

/-
  The most of a list.
-/
namespace Go.Fw
open Go

/-! ### The most of a list -/
def mostL (l : List Int) (m : Int) : Int := l.foldl (fun m x => if m < x then x else m) m
theorem mostL_ge : ∀ (l : List Int) (m : Int), m ≤ mostL l m ∧ ∀ x ∈ l, x ≤ mostL l m
  | [], m => ⟨Int.le_refl _, fun x h => (by cases h)⟩
  | y :: l, m => by
    obtain ⟨h1, h2⟩ := mostL_ge l (if m < y then y else m)
    have e : mostL (y :: l) m = mostL l (if m < y then y else m) := rfl
    rw [e]
    refine ⟨?_, fun x hx => ?_⟩
    · split at h1 <;> split <;> omega
    · rcases List.mem_cons.1 hx with rfl | hx
      · split at h1 <;> split <;> omega
      · exact h2 x hx
theorem mostL_le {B : Int} : ∀ (l : List Int) (m : Int), m ≤ B → (∀ x ∈ l, x ≤ B) → mostL l m ≤ B
  | [], m, h, _ => h
  | y :: l, m, h, hl => by
    have e : mostL (y :: l) m = mostL l (if m < y then y else m) := rfl
    rw [e]
    refine mostL_le l _ ?_ fun x hx => hl x (by simp [hx])
    have := hl y (by simp)
    split <;> omega
theorem mostL_take (l : List Int) (m : Int) (k : Nat) (h : k < l.length) : mostL (l.take (k + 1)) m = if mostL (l.take k) m < l.getD k 0 then l.getD k 0 else mostL (l.take k) m := by
  rw [take_succ_getD l k 0 h]
  unfold mostL
  rw [List.foldl_append]
  rfl
def mostW (F : TF) : Int := mostL F.fin (mostL (F.arcs.map (·.w)) 0)
theorem mostW_arc {F : TF} {a : Arc} (h : a ∈ F.arcs) : a.w ≤ mostW F := by
  have h1 := (mostL_ge (F.arcs.map (·.w)) 0).2 a.w (List.mem_map.2 ⟨a, h, rfl⟩)
  have h2 := (mostL_ge F.fin (mostL (F.arcs.map (·.w)) 0)).1
  unfold mostW
  omega
theorem mostW_fin {F : TF} {x : Int} (h : x ∈ F.fin) : x ≤ mostW F := (mostL_ge F.fin _).2 x h
end Go.Fw

namespace Go.Fw
open Go Go.Proofs

set_option maxHeartbeats 4000000 in
set_option maxRecDepth 20000 in
theorem mostWeight_c (F : TF) (hal : F.arcs.length ≤ 1000000000) (hfl : F.fin.length ≤ 1000000000) : Ct Tryd.prog 52 [fV F] [] (hpF F) 2 (Is 2 (.i (mostW F))) := by
  refine ctW Tryd.tyOk 6 [] Tryd.func52 rfl (by simp) (by simp) (fr := [(0, fV F)]) rfl ?_
  repeat' (first | exact rfl | ((conv => whnf); first | (refine qX (fun h => ?_) fun h => ?_ <;> try exact absurd h (by omega)) | refine oN ?_ | refine oM ?_ ?_ | refine bM ?_ ?_ | refine dR ?_))
  (conv => whnf)
  refine loopI (fun k : Nat => ⟨[(1, .c (.ptr 2 0)), (2, .c (.i 0)), (3, .i (mostL ((F.arcs.map (·.w)).take k) 0)), (4, .i k)], hpF F ++ [(2, .box 25 (fCells F))], 3⟩)
    (fun k => k ≤ F.arcs.length) (fun k => F.arcs.length - k) 0 [] ⟨by rfl, ?_, ?_⟩ (Nat.zero_le _) ?_
  · simp [mostL]
  · simp [fCells]
  · intro k hk
    have e0 : 0 + (k : Int).toNat = k := by omega
    have hks : k < F.arcs.length → mostL ((F.arcs.map (·.w)).take (k + 1)) 0 = if mostL ((F.arcs.map (·.w)).take k) 0 < (F.arcs.getD (0 + (k : Int).toNat) EK.arc.dflt).w then (F.arcs.getD (0 + (k : Int).toNat) EK.arc.dflt).w else mostL ((F.arcs.map (·.w)).take k) 0 := by
      intro h
      have e1 : (F.arcs.map (·.w)).getD k 0 = (F.arcs.getD (0 + (k : Int).toNat) EK.arc.dflt).w := by
        rw [e0]
        simp [List.getD, h]
      rw [mostL_take _ _ k (by simpa using h), e1]
    have hke : k = F.arcs.length → mostL ((F.arcs.map (·.w)).take k) 0 = mostL (F.arcs.map (·.w)) 0 := by
      rintro rfl
      rw [List.take_of_length_le (by simp)]
    generalize hm : mostL ((F.arcs.map (·.w)).take k) 0 = m at hks hke ⊢
    repeat' (first | exact rfl | ((conv => whnf); first | (refine qX (fun h => ?_) fun h => ?_ <;> try exact absurd h (by omega)) | refine oN ?_ | refine oM ?_ ?_ | refine bM ?_ ?_ | refine dR ?_))
    · rename_i h2
      have e := hks (by omega)
      rw [if_pos (by omega)] at e
      (conv => whnf)
      refine ⟨k + 1, [], ⟨by rfl, ?_, ?_⟩, by omega, by omega⟩
      · simp [e]
      · simp [fCells]
    · have e := hks (by omega)
      rw [if_neg (by omega)] at e
      (conv => whnf)
      refine ⟨k + 1, [], ⟨by rfl, ?_, ?_⟩, by omega, by omega⟩
      · simp [e]
      · simp [fCells]
    · have e := hke (by omega)
      subst e
      clear hks hm hke
      (conv => whnf)
      refine loopI (fun k : Nat => ⟨[(1, .c (.ptr 2 0)), (2, .c (.i 0)), (3, .i (mostL (F.fin.take k) (mostL (F.arcs.map (·.w)) 0))), (5, .i k)], hpF F ++ [(2, .box 25 (fCells F))], 3⟩)
        (fun k => k ≤ F.fin.length) (fun k => F.fin.length - k) 0 [] ⟨by rfl, ?_, ?_⟩ (Nat.zero_le _) ?_
      · simp [mostL]
      · simp [fCells]
      · clear hk
        intro k hk
        have e0 : 0 + (k : Int).toNat = k := by omega
        have hks : k < F.fin.length → mostL (F.fin.take (k + 1)) (mostL (F.arcs.map (·.w)) 0) = if mostL (F.fin.take k) (mostL (F.arcs.map (·.w)) 0) < F.fin.getD (0 + (k : Int).toNat) EK.int.dflt then F.fin.getD (0 + (k : Int).toNat) EK.int.dflt else mostL (F.fin.take k) (mostL (F.arcs.map (·.w)) 0) := by
          intro h
          rw [e0]
          exact mostL_take _ _ k h
        have hke : k = F.fin.length → mostL (F.fin.take k) (mostL (F.arcs.map (·.w)) 0) = mostW F := by
          rintro rfl
          rw [List.take_length]
          rfl
        generalize hm : mostL (F.fin.take k) (mostL (F.arcs.map (·.w)) 0) = m at hks hke ⊢
        repeat' (first | exact rfl | ((conv => whnf); first | (refine qX (fun h => ?_) fun h => ?_ <;> try exact absurd h (by omega)) | refine oN ?_ | refine oM ?_ ?_ | refine bM ?_ ?_ | refine dR ?_))
        · rename_i h2
          have e := hks (by omega)
          rw [if_pos (by omega)] at e
          (conv => whnf)
          refine ⟨k + 1, [], ⟨by rfl, ?_, ?_⟩, by omega, by omega⟩
          · simp [e]
          · simp [fCells]
        · have e := hks (by omega)
          rw [if_neg (by omega)] at e
          (conv => whnf)
          refine ⟨k + 1, [], ⟨by rfl, ?_, ?_⟩, by omega, by omega⟩
          · simp [e]
          · simp [fCells]
        · have e := hke (by omega)
          rw [e]
          (conv => whnf)
          refine Back.is ?_
          simp
end Go.Fw

/-
  States by classes and states by beginnings: both numberings run alike.
-/
namespace Go.Fw

section
variable (U : TF) (W vs : List (List Int))
/-- What a state's costs are told ahead of. -/
def lrBase (n j : Nat) : Int := if n = 0 then 0 else bstW U W vs W.length j
def lrStep (n j : Nat) (st : List Nat × List Arc) (c : Nat) : List Nat × List Arc :=
  if 0 ≤ onI W j ((c : Int) + 1) then
    (lsF U W vs st.1 (onI W j ((c : Int) + 1)).toNat, st.2 ++ [⟨(n : Nat), (c : Int) + 1, (c : Int) + 1, (lsN U W vs st.1 (onI W j ((c : Int) + 1)).toNat : Nat), bstW U W vs W.length (onI W j ((c : Int) + 1)).toNat - lrBase U W vs n j⟩])
  else st
def lrL (n j : Nat) (st : List Nat × List Arc) : Nat → List Nat × List Arc
  | 0 => st
  | k + 1 => lrStep U W vs n j (lrL n j st k) k
/-- The document's states, level by level. -/
def lrRows : Nat → List Nat × List Arc
  | 0 => ([0], [])
  | n + 1 => lrL U W vs n ((lrRows n).1.getD n 0) (lrRows n) 9
def lrE (n j : Nat) : Int := if 0 ≤ endW U vs j then endW U vs j - lrBase U W vs n j else endW U vs j
def lrF (first : List Nat) (n : Nat) : List Int := (List.range n).map fun k => lrE U W vs k (first.getD k 0)
end

section
variable {U : TF} {W vs : List (List Int)}

theorem alk_refl : ∀ (f i : Nat) (x : Int), alkW U W vs f i i x x = true
  | 0, _, _ => rfl
  | f + 1, i, x => by
    have hdef : alkW U W vs (f + 1) i i x x = (alE (endW U vs i) (endW U vs i) x x && (List.range 9).all (alkS U W vs f i i x x)) := rfl
    rw [hdef, Bool.and_eq_true, List.all_eq_true]
    refine ⟨by simp [alE], fun c _ => ?_⟩
    unfold alkS
    rw [if_neg (by simp)]
    split
    · exact alk_refl f _ x
    · rfl

theorem lsF_app (first : List Nat) (i : Nat) : ∃ M, lsF U W vs first i = first ++ M := by
  unfold lsF
  split
  · exact ⟨[], by simp⟩
  · exact ⟨[i], rfl⟩
/-- What holds of the beginnings that speak for states. -/
structure LrI (W : List (List Int)) (first : List Nat) : Prop where
  rng : ∀ j ∈ first, j < W.length
  nd : first.Nodup
  pos : 1 ≤ first.length
theorem LrI.le {first : List Nat} (h : LrI W first) : first.length ≤ W.length := by
  have := nd_le h.nd (m := List.range W.length) fun j hj => List.mem_range.2 (h.rng j hj)
  simpa using this
theorem LrI.step {first : List Nat} (h : LrI W first) {i : Nat} (hi : i < W.length) : LrI W (lsF U W vs first i) := by
  unfold lsF
  split
  · exact h
  · rename_i hn
    have hni : i ∉ first := fun hc => hn (by
      unfold lsN
      exact List.findIdx_lt_length_of_exists ⟨i, hc, alk_refl _ _ _⟩)
    refine ⟨fun j hj => ?_, ?_, by simp⟩
    · rcases List.mem_append.1 hj with hj | hj
      · exact h.rng j hj
      · rw [List.mem_singleton] at hj; rw [hj]; exact hi
    · refine List.nodup_append.2 ⟨h.nd, by simp, fun a ha b hb => ?_⟩
      rw [List.mem_singleton] at hb
      rw [hb]
      exact fun e => hni (e ▸ ha)
theorem lrL_app (n j : Nat) (st : List Nat × List Arc) : ∀ k, (∃ M, (lrL U W vs n j st k).1 = st.1 ++ M) ∧ (lrL U W vs n j st k).2.length ≤ st.2.length + k
  | 0 => ⟨⟨[], by simp [lrL]⟩, Nat.le_refl _⟩
  | k + 1 => by
    obtain ⟨⟨M, hM⟩, hl⟩ := lrL_app n j st k
    show (∃ M, (lrStep U W vs n j (lrL U W vs n j st k) k).1 = st.1 ++ M) ∧ (lrStep U W vs n j (lrL U W vs n j st k) k).2.length ≤ _
    unfold lrStep
    split
    · obtain ⟨N, hN⟩ := lsF_app (U := U) (W := W) (vs := vs) (lrL U W vs n j st k).1 (onI W j ((k : Int) + 1)).toNat
      exact ⟨⟨M ++ N, by simp only; rw [hN, hM, List.append_assoc]⟩, by simp only [List.length_append, List.length_singleton]; omega⟩
    · exact ⟨⟨M, hM⟩, by omega⟩
end

theorem findIdx_idxOf {p : Nat → Bool} {t : Int} : ∀ {f : List Nat} {L : List Int}, f.length = L.length → (∀ j, j < L.length → (p (f.getD j 0) = true ↔ L.getD j 0 = t)) → f.findIdx p = L.idxOf t
  | [], [], _, _ => rfl
  | [], _ :: _, h, _ => by cases h
  | _ :: _, [], h, _ => by cases h
  | x :: f, y :: L, h, hj => by
    have h0 := hj 0 (by simp)
    simp only [List.getD_cons_zero] at h0
    have ih := findIdx_idxOf (p := p) (t := t) (f := f) (L := L) (by simpa using h) fun j hjl => by
      have := hj (j + 1) (by simp only [List.length_cons]; omega)
      simpa only [List.getD_cons_succ] using this
    rw [List.findIdx_cons, List.idxOf_cons, ih]
    by_cases e : y = t
    · rw [h0.2 e, e]; simp
    · have hp : p x = false := by
        cases hp : p x with
        | false => rfl
        | true => exact absurd (h0.1 hp) e
      rw [hp, show (y == t) = false by simpa using e]

/-- One more arc is taken. -/
def mgG (cls : List Int) (i : Nat) (st : List Int × List Arc) (a : Arc) : List Int × List Arc := (mgL cls st.1 a.t, st.2 ++ [⟨(i : Nat), a.i, a.o, mgN cls st.1 a.t, a.w⟩])
theorem mgP_fold (D : TF) (cls : List Int) (i : Nat) (s : Int) (st : List Int × List Arc) : ∀ k, k ≤ D.arcs.length → mgP D cls i s st k = ((D.arcs.take k).filter fun a => decide (a.f = s)).foldl (mgG cls i) st
  | 0, _ => by simp [mgP]
  | k + 1, hk => by
    show mgStep cls i s (mgP D cls i s st k) (D.arcs.getD k aD) = _
    have e : D.arcs.take (k + 1) = D.arcs.take k ++ [D.arcs.getD k aD] := by
      rw [List.take_add_one]
      simp [List.getD, show k < D.arcs.length by omega]
    rw [e, List.filter_append, List.foldl_append, ← mgP_fold D cls i s st k (by omega)]
    unfold mgStep
    by_cases h : (D.arcs.getD k aD).f = s
    · rw [if_pos h, List.filter_cons_of_pos (by simpa using h)]
      rfl
    · rw [if_neg h, List.filter_cons_of_neg (by simpa using h)]
      rfl

theorem arc_ext : ∀ {l m : List Arc}, l.Pairwise (fun x y => x.i < y.i) → m.Pairwise (fun x y => x.i < y.i) → (∀ x, x ∈ l ↔ x ∈ m) → l = m
  | [], [], _, _, _ => rfl
  | [], y :: m, _, _, h => by have := (h y).2 (by simp); cases this
  | x :: l, [], _, _, h => by have := (h x).1 (by simp); cases this
  | x :: l, y :: m, hl, hm, h => by
    rw [List.pairwise_cons] at hl hm
    have e : x = y := by
      have h1 := (h x).1 (by simp)
      have h2 := (h y).2 (by simp)
      rcases List.mem_cons.1 h1 with h1 | h1
      · exact h1
      · rcases List.mem_cons.1 h2 with h2 | h2
        · exact h2.symm
        · have := hm.1 x h1
          have := hl.1 y h2
          omega
    subst e
    rw [arc_ext hl.2 hm.2 fun z => ?_]
    have hz := h z
    rw [List.mem_cons, List.mem_cons] at hz
    constructor
    · intro hzl
      rcases hz.1 (.inr hzl) with e | g
      · subst e; have := hl.1 z hzl; omega
      · exact g
    · intro hzm
      rcases hz.2 (.inr hzm) with e | g
      · subst e; have := hm.1 z hzm; omega
      · exact g

/-- What leads on from a state by letters so far. -/
def outR (X : TF) (s : Int) (k : Nat) : List Arc := X.arcs.filter fun a => decide (a.f = s) && decide (a.i ≤ (k : Int))
theorem mem_outR {X : TF} {s : Int} {k : Nat} {a : Arc} : a ∈ outR X s k ↔ a ∈ X.arcs ∧ a.f = s ∧ a.i ≤ k := by
  unfold outR
  rw [List.mem_filter, Bool.and_eq_true, decide_eq_true_eq, decide_eq_true_eq]
theorem outR_srt {X : TF} (hd : DetD X) (s : Int) (k : Nat) : (outR X s k).Pairwise fun x y => x.i < y.i := by
  have h1 : (outR X s k).Pairwise fun a b => aheadB a b = true := List.Pairwise.sublist List.filter_sublist hd.srt
  refine List.Pairwise.imp_of_mem (fun {a b} ha hb hab => ?_) h1
  obtain ⟨ha1, ha2, _⟩ := mem_outR.1 ha
  obtain ⟨hb1, hb2, _⟩ := mem_outR.1 hb
  rw [aheadB_iff] at hab
  by_cases hi : a.i = b.i
  · have := hd.one a ha1 b hb1 (ha2.trans hb2.symm) hi
    rw [this] at hab
    omega
  · omega
theorem outR_yes {X : TF} (hd : DetD X) {s : Int} {k : Nat} {a : Arc} (ha : a ∈ X.arcs) (h1 : a.f = s) (h2 : a.i = (k : Int) + 1) : outR X s (k + 1) = outR X s k ++ [a] := by
  refine arc_ext (outR_srt hd s (k + 1)) ?_ fun x => ?_
  · refine List.pairwise_append.2 ⟨outR_srt hd s k, List.pairwise_singleton _ _, fun x hx y hy => ?_⟩
    rw [List.mem_singleton] at hy
    subst hy
    have := (mem_outR.1 hx).2.2
    omega
  · rw [List.mem_append, List.mem_singleton, mem_outR, mem_outR]
    constructor
    · rintro ⟨g1, g2, g3⟩
      by_cases e : x.i = (k : Int) + 1
      · exact .inr (hd.one x g1 a ha (g2.trans h1.symm) (e.trans h2.symm))
      · exact .inl ⟨g1, g2, by omega⟩
    · rintro (⟨g1, g2, g3⟩ | rfl)
      · exact ⟨g1, g2, by omega⟩
      · exact ⟨ha, h1, by omega⟩
theorem outR_no {X : TF} {s : Int} {k : Nat} (h : ∀ a ∈ X.arcs, a.f = s → a.i ≠ (k : Int) + 1) : outR X s (k + 1) = outR X s k := by
  unfold outR
  refine List.filter_congr fun a ha => ?_
  by_cases e : a.f = s
  · have := h a ha e
    rw [decide_eq_true e, Bool.true_and, Bool.true_and]
    exact decide_eq_decide.2 ⟨fun g => by omega, fun g => by omega⟩
  · rw [decide_eq_false e]; rfl
theorem outR_none {X : TF} {s : Int} (h : ∀ a ∈ X.arcs, 1 ≤ a.i) : outR X s 0 = [] := by
  unfold outR
  rw [List.filter_eq_nil_iff]
  intro a ha
  have := h a ha
  rw [Bool.and_eq_true, decide_eq_true_eq, decide_eq_true_eq]
  rintro ⟨_, g⟩
  omega
theorem outR_all {X : TF} {s : Int} (h : ∀ a ∈ X.arcs, a.i ≤ 9) : outR X s 9 = X.arcs.filter fun a => decide (a.f = s) := by
  unfold outR
  refine List.filter_congr fun a ha => ?_
  rw [decide_eq_true (show a.i ≤ ((9 : Nat) : Int) from h a ha), Bool.and_true]

section
variable {F U : TF} {st : DS} (h : DetH F U st) (h12 : F.st ≤ 12) (hn : ∃ w c, CW U U.start w c) {W vs : List (List Int)} {par sym : List Int} (hw : WSt U W vs par sym W.length 1)

/-- Both run alike so far. -/
structure Run (U : TF) (st : DS) (W : List (List Int)) (a : List Nat × List Arc) (b : List Int × List Arc) : Prop where
  len : a.1.length = b.1.length
  f0 : a.1.getD 0 0 = 0
  pos : 1 ≤ b.1.length
  on : ∀ j, j < b.1.length → a.1.getD j 0 < W.length ∧ ∃ (q : Nat) (d : Int), q < st.1.length ∧ b.1.getD j 0 = q ∧ RdW st.2 0 (W.getD (a.1.getD j 0) []) q d
  out : a.2 = b.2.map (adA (dsD U st 0))

include h hw in
theorem Run.start (cls : List Int) (c1 c2 : Nat) : Run U st W (lrRows U W vs 0) (mgRows (phT (mkD U st 0 0) c1 c2) cls 0) := by
  refine ⟨rfl, rfl, Nat.le_refl _, fun j hj => ?_, rfl⟩
  have hj : j < 1 := hj
  have : j = 0 := by omega
  subst this
  refine ⟨hw.pos, 0, 0, h.ri.len, rfl, ?_⟩
  show RdW st.2 0 (W.getD 0 []) _ 0
  rw [hw.w0]
  exact .nil _

include h h12 hn hw
variable {c1 c2 : Nat} {cls : List Int} (hc : ClsOk (phT (mkD U st 0 0) c1 c2) cls)
include hc

theorem Run.num {a : List Nat × List Arc} {b : List Int × List Arc} (hr : Run U st W a b) {o : Nat} (ho : o < W.length) {r : Nat} {e : Int} (hr1 : r < st.1.length) (hr2 : RdW st.2 0 (W.getD o []) r e) :
    lsN U W vs a.1 o = (b.1.map (clA cls)).idxOf (clA cls r) := by
  unfold lsN
  refine findIdx_idxOf (by rw [List.length_map]; exact hr.len) fun j hj => ?_
  rw [List.length_map] at hj
  obtain ⟨k1, q, d, k2, k3, k4⟩ := hr.on j hj
  rw [lsA_iff h h12 hn hw hc k1 ho k2 hr1 k4 hr2]
  have e1 : (b.1.map (clA cls)).getD j 0 = clA cls (b.1.getD j 0) := by simp [List.getD, hj]
  rw [e1, k3]
  unfold clA
  rw [Int.toNat_natCast, Int.toNat_natCast]

theorem Run.step {n j q : Nat} {d : Int} (hj : j < W.length) (hq : q < st.1.length) (hjq : RdW st.2 0 (W.getD j []) q d) (h0 : n = 0 → j = 0) {a : List Nat × List Arc} {b : List Int × List Arc} (hr : Run U st W a b) {k : Nat} (hk : k < 9) :
    (0 ≤ onI W j ((k : Int) + 1) ∧ ∃ x ∈ (phT (mkD U st 0 0) c1 c2).arcs, x.f = q ∧ x.i = (k : Int) + 1 ∧ Run U st W (lrStep U W vs n j a k) (mgG cls n b x)) ∨
    (¬ 0 ≤ onI W j ((k : Int) + 1) ∧ (∀ x ∈ (phT (mkD U st 0 0) c1 c2).arcs, x.f = q → x.i ≠ (k : Int) + 1) ∧ Run U st W (lrStep U W vs n j a k) b) := by
  have hB := (h.fokB h12 0 0).1
  by_cases ho : 0 ≤ onI W j ((k : Int) + 1)
  · left
    refine ⟨ho, ?_⟩
    obtain ⟨x, hx, g1, g2, g3, g4, g5, g6⟩ := on_yes h hw hj hjq ho
    have hrx := (h.rngD 0 0 x hx).2.1
    have hrx : 0 ≤ x.t ∧ x.t < ((st.1.length : Nat) : Int) := hrx
    have et : ((x.t.toNat : Nat) : Int) = x.t := by omega
    have d1 := dsD_is h h12 hn hq
    have d2 := dsD_is h h12 hn (q := x.t.toNat) (by omega)
    have d0 := dsD_is h h12 hn (q := 0) (by have := h.ri.len; omega)
    have eq' : x.f.toNat = q := by omega
    have hnum := hr.num h h12 hn hw hc g4.2 (r := x.t.toNat) (by omega) (by rw [et]; exact g6)
    rw [et] at hnum
    have hb1 := bst_is h h12 hn hw hj hq hjq
    have hb2 := bst_is h h12 hn hw g4.2 (q := x.t.toNat) (by omega) (by rw [et]; exact g6)
    have hp : (⟨x.f, x.i, x.o, x.t, x.w + (dsD U st x.t.toNat - dsD U st q)⟩ : Arc) ∈ (phT (mkD U st 0 0) c1 c2).arcs := by
      show _ ∈ pushL _ _
      refine pushL_mem.2 ⟨x, hx, ?_, ?_, ?_⟩
      · rw [eq']; have := d1.2.1; unfold dsD at this; omega
      · have := d2.2.1; unfold dsD at this; omega
      · rw [eq']; rfl
    refine ⟨_, hp, g1, g2, ?_⟩
    unfold lrStep mgG
    rw [if_pos ho]
    have hxw : (adA (dsD U st 0) ⟨(n : Nat), x.i, x.o, mgN cls b.1 x.t, x.w + (dsD U st x.t.toNat - dsD U st q)⟩) = ⟨(n : Nat), (k : Int) + 1, (k : Int) + 1, mgN cls b.1 x.t, bstW U W vs W.length (onI W j ((k : Int) + 1)).toNat - lrBase U W vs n j⟩ := by
      unfold adA lrBase
      rw [hb2]
      by_cases en : n = 0
      · have ej := h0 en
        subst en ej
        rw [hw.w0] at hjq
        obtain ⟨e1, e2⟩ := hjq.none rfl
        have e3 : q = 0 := by omega
        subst e2 e3
        rw [if_pos rfl, if_pos (by rfl)]
        simp only [Arc.mk.injEq]
        exact ⟨trivial, g2, g3, trivial, by omega⟩
      · rw [if_neg en, if_neg (by simp only; omega), hb1]
        simp only [Arc.mk.injEq]
        exact ⟨trivial, g2, g3, trivial, by omega⟩
    have hnew : Run U st W (a.1 ++ [(onI W j ((k : Int) + 1)).toNat], a.2) (b.1 ++ [x.t], b.2) := by
      have hlen := hr.len
      have hpos := hr.pos
      refine ⟨by simp only [List.length_append, List.length_singleton]; omega, ?_, by simp only [List.length_append, List.length_singleton]; omega, fun i hi => ?_, hr.out⟩
      · show (a.1 ++ _).getD 0 0 = 0
        rw [snoc_getD, if_neg (by omega)]; exact hr.f0
      · simp only [List.length_append, List.length_singleton] at hi ⊢
        rw [snoc_getD, snoc_getD, hlen]
        by_cases e : i = b.1.length
        · rw [if_pos e, if_pos e]
          exact ⟨g4.2, x.t.toNat, _, by omega, et.symm, by rw [et]; exact g6⟩
        · rw [if_neg e, if_neg e]
          exact hr.on i (by omega)
    have hmg : (mgN cls b.1 x.t : Int) = (lsN U W vs a.1 (onI W j ((k : Int) + 1)).toNat : Nat) ∧ Run U st W (lsF U W vs a.1 (onI W j ((k : Int) + 1)).toNat, a.2) (mgL cls b.1 x.t, b.2) := by
      rw [hnum]
      unfold mgN mgL lsF
      rw [hnum]
      have hlen := hr.len
      have hll : (b.1.map (clA cls)).length = b.1.length := List.length_map _
      by_cases hm : clA cls x.t ∈ b.1.map (clA cls)
      · have := List.idxOf_lt_length_of_mem hm
        rw [if_pos hm, if_pos (by omega)]
        exact ⟨rfl, hr⟩
      · have hio : (b.1.map (clA cls)).idxOf (clA cls x.t) = b.1.length := by rw [List.idxOf_eq_length hm, hll]
        rw [if_neg hm, if_neg (by omega), List.map_append, hio]
        have e9 : (b.1.map (clA cls) ++ [x.t].map (clA cls)).idxOf (clA cls x.t) = b.1.length := by
          show (b.1.map (clA cls) ++ [clA cls x.t]).idxOf (clA cls x.t) = _
          rw [idxOf_out hm, hll]
          simp
        exact ⟨by rw [e9], hnew⟩
    obtain ⟨hm1, hm2⟩ := hmg
    refine ⟨hm2.len, hm2.f0, hm2.pos, hm2.on, ?_⟩
    show a.2 ++ _ = (b.2 ++ _).map _
    rw [List.map_append, ← hr.out, List.map_singleton, hxw, hm1]
  · right
    refine ⟨ho, fun x hx e1 e2 => ho ?_, ?_⟩
    · obtain ⟨y, hy, _, _, rfl⟩ := pushL_mem.1 hx
      exact on_no h hw hj hjq hy e1 e2
    · unfold lrStep
      rw [if_neg ho]
      exact hr

theorem Run.row {n j q : Nat} {d : Int} (hj : j < W.length) (hq : q < st.1.length) (hjq : RdW st.2 0 (W.getD j []) q d) (h0 : n = 0 → j = 0) {a : List Nat × List Arc} {b : List Int × List Arc} (hr : Run U st W a b) :
    ∀ k, k ≤ 9 → Run U st W (lrL U W vs n j a k) ((outR (phT (mkD U st 0 0) c1 c2) q k).foldl (mgG cls n) b)
  | 0, _ => by
    rw [outR_none fun x hx => by
      obtain ⟨y, hy, _, _, rfl⟩ := pushL_mem.1 hx
      exact (h.rngD 0 0 y hy).2.2.1.1]
    exact hr
  | k + 1, hk => by
    have ih := Run.row hj hq hjq h0 hr k (by omega)
    show Run U st W (lrStep U W vs n j (lrL U W vs n j a k) k) _
    rcases ih.step h h12 hn hw hc hj hq hjq h0 (k := k) (by omega) with ⟨_, x, hx, e1, e2, g⟩ | ⟨_, hno, g⟩
    · rw [outR_yes (ph_det (h.detD 0 0)) hx e1 e2, List.foldl_append]
      exact g
    · rw [outR_no hno]
      exact g

theorem Run.rows : ∀ n, (∀ j, j < n → j < (mgRows (phT (mkD U st 0 0) c1 c2) cls j).1.length) → Run U st W (lrRows U W vs n) (mgRows (phT (mkD U st 0 0) c1 c2) cls n)
  | 0, _ => Run.start h hw cls c1 c2
  | n + 1, hl => by
    have ih := Run.rows n fun j hj => hl j (by omega)
    obtain ⟨hj, q, d, hq, hb, hr⟩ := ih.on n (hl n (by omega))
    show Run U st W (lrL U W vs n ((lrRows U W vs n).1.getD n 0) (lrRows U W vs n) 9) (mgP (phT (mkD U st 0 0) c1 c2) cls n ((mgRows (phT (mkD U st 0 0) c1 c2) cls n).1.getD n 0) (mgRows (phT (mkD U st 0 0) c1 c2) cls n) (phT (mkD U st 0 0) c1 c2).arcs.length)
    rw [mgP_fold _ _ _ _ _ _ (Nat.le_refl _), List.take_length, hb, ← outR_all fun x hx => by
      obtain ⟨y, hy, _, _, rfl⟩ := pushL_mem.1 hx
      exact (h.rngD 0 0 y hy).2.2.1.2]
    refine Run.row h h12 hn hw hc hj hq hr (fun e => ?_) ih 9 (Nat.le_refl _)
    rw [e]
    exact (Run.start h hw cls c1 c2).f0

/-- Both end with the same. -/
theorem rows_same {left : List Int} {outs : List Arc} (h1 : mgRows (phT (mkD U st 0 0) c1 c2) cls left.length = (left, outs)) (h2 : ∀ j, j < left.length → j < (mgRows (phT (mkD U st 0 0) c1 c2) cls j).1.length)
    {first : List Nat} {rout : List Arc} (h3 : lrRows U W vs first.length = (first, rout)) (h4 : ∀ j, j < first.length → j < (lrRows U W vs j).1.length) :
    first.length = left.length ∧ rout = outs.map (adA (dsD U st 0)) ∧ lrF U W vs first first.length = adF (dsD U st 0) (left.map (fiA (phT (mkD U st 0 0) c1 c2))) := by
  have hB := (h.fokB h12 0 0).1
  have hlen : first.length = left.length := by
    rcases Nat.lt_trichotomy first.length left.length with g | g | g
    · exfalso
      have hr := Run.rows h h12 hn hw hc first.length fun j hj => h2 j (by omega)
      have e := hr.len
      rw [h3] at e
      have := h2 _ g
      simp only at e
      omega
    · exact g
    · exfalso
      have hr := Run.rows h h12 hn hw hc left.length h2
      have e := hr.len
      rw [h1] at e
      have := h4 _ g
      simp only at e
      omega
  have hr := Run.rows h h12 hn hw hc left.length h2
  rw [h1, ← hlen, h3] at hr
  refine ⟨hlen, hr.out, ?_⟩
  have hfl : ∀ q : Nat, -1 ≤ (mkD U st 0 0).fin.getD q 0 := fun q => by
    by_cases hj : q < (mkD U st 0 0).fin.length
    · exact (hB.fin _ (getD_mem _ q 0 hj)).1
    · simp only [List.getD, List.getElem?_eq_none (show (mkD U st 0 0).fin.length ≤ q by omega), Option.getD_none]; omega
  have key : ∀ n (hn2 : n < left.length), lrE U W vs n (first.getD n 0) = if (n = 0 ∧ fiA (phT (mkD U st 0 0) c1 c2) (left.getD 0 0) ≠ -1) then fiA (phT (mkD U st 0 0) c1 c2) (left.getD 0 0) + dsD U st 0 else fiA (phT (mkD U st 0 0) c1 c2) (left.getD n 0) := fun n hn2 => by
    obtain ⟨hj, q, d, hq, hb, hrd⟩ := hr.on n hn2
    simp only at hj hb hrd
    have he := end_is h hw hj hq hrd
    have hf := ph_fin hB (c1 := c1) (c2 := c2) (q := q) (by show q < ((st.1.length : Nat) : Int).toNat; omega)
    have d1 := dsD_is h h12 hn hq
    have hd0 := (h.ri.sub h.hU hrd).r0
    have hbst := bst_is h h12 hn hw hj hq hrd
    have hfi : fiA (phT (mkD U st 0 0) c1 c2) (left.getD n 0) = if (mkD U st 0 0).fin.getD q 0 ≠ -1 then (mkD U st 0 0).fin.getD q 0 - dsD U st q else -1 := by
      unfold fiA
      rw [hb, Int.toNat_natCast, hf]
      rfl
    have hle : (mkD U st 0 0).fin.getD q 0 ≠ -1 → dsD U st q ≤ (mkD U st 0 0).fin.getD q 0 := fun e => (d1.1.le (c := (mkD U st 0 0).fin.getD q 0) ⟨[], CW.nil.2 ⟨by rw [Int.toNat_natCast]; exact e, by rw [Int.toNat_natCast]⟩⟩).2
    have hq1 := hfl q
    unfold lrE lrBase
    rw [he]
    by_cases e0 : n = 0
    · subst e0
      have hf0 := hr.f0
      simp only at hf0
      rw [hf0, hw.w0] at hrd
      obtain ⟨g1, g2⟩ := hrd.none rfl
      have g3 : q = 0 := by omega
      subst g2 g3
      rw [hfi]
      rw [if_pos (show (0 : Nat) = 0 from rfl)]
      generalize (mkD U st 0 0).fin.getD 0 0 = a0 at *
      by_cases e : a0 = -1
      · subst e
        simp
      · have := hle e
        have e5 : a0 - dsD U st 0 ≠ -1 := by omega
        simp only [e, e5, ne_eq, not_false_eq_true, and_self, if_true, if_false]
        rw [if_pos (show 0 ≤ 0 + a0 by omega)]
        omega
    · rw [hfi, hbst]
      generalize (mkD U st 0 0).fin.getD q 0 = a0 at *
      by_cases e : a0 = -1
      · subst e
        simp [e0]
      · have := hle e
        simp only [e, e0, ne_eq, not_false_eq_true, false_and, if_true, if_false]
        rw [if_pos (show 0 ≤ d + a0 by omega)]
        omega
  have hpos := hr.pos
  simp only at hpos
  apply List.ext_getElem
  · unfold lrF adF
    split <;> simp [hlen]
  · intro n g1 g2
    have gn : n < left.length := by
      have : (lrF U W vs first first.length).length = first.length := by simp [lrF]
      omega
    have e1 : (lrF U W vs first first.length)[n] = lrE U W vs n (first.getD n 0) := by simp [lrF]
    rw [e1, key n gn]
    have e3 : (left.map (fiA (phT (mkD U st 0 0) c1 c2))).getD 0 0 = fiA (phT (mkD U st 0 0) c1 c2) (left.getD 0 0) := by simp [List.getD, show 0 < left.length by omega]
    have e4 : ∀ (g : n < (left.map (fiA (phT (mkD U st 0 0) c1 c2))).length), (left.map (fiA (phT (mkD U st 0 0) c1 c2)))[n] = fiA (phT (mkD U st 0 0) c1 c2) (left.getD n 0) := fun g => by simp [List.getD, gn]
    have e2 : ∀ g, (adF (dsD U st 0) (left.map (fiA (phT (mkD U st 0 0) c1 c2))))[n]'g = if (n = 0 ∧ fiA (phT (mkD U st 0 0) c1 c2) (left.getD 0 0) ≠ -1) then fiA (phT (mkD U st 0 0) c1 c2) (left.getD 0 0) + dsD U st 0 else fiA (phT (mkD U st 0 0) c1 c2) (left.getD n 0) := by
      intro g
      have hall : adF (dsD U st 0) (left.map (fiA (phT (mkD U st 0 0) c1 c2))) = if fiA (phT (mkD U st 0 0) c1 c2) (left.getD 0 0) = -1 then left.map (fiA (phT (mkD U st 0 0) c1 c2)) else (left.map (fiA (phT (mkD U st 0 0) c1 c2))).set 0 (fiA (phT (mkD U st 0 0) c1 c2) (left.getD 0 0) + dsD U st 0) := by
        unfold adF
        rw [e3]
      by_cases e : fiA (phT (mkD U st 0 0) c1 c2) (left.getD 0 0) = -1
      · rw [if_pos e] at hall
        rw [if_neg (fun c => c.2 e)]
        simp only [hall]
        exact e4 _
      · rw [if_neg e] at hall
        simp only [hall, List.getElem_set]
        by_cases e0 : n = 0
        · rw [if_pos e0.symm, if_pos ⟨e0, e⟩]
        · rw [if_neg (fun c => e0 c.symm), if_neg (fun c => e0 c.1)]
          exact e4 _
    exact (e2 g2).symm
end
end Go.Fw

/-
  Bounds of what beginnings cost; the most of all costs; what the document's rows keep.
-/
namespace Go.Fw

section
variable {F U : TF} {st : DS} (h : DetH F U st) (h12 : F.st ≤ 12) {W vs : List (List Int)} {par sym : List Int} (hw : WSt U W vs par sym W.length 1)
include h h12

theorem DetH.cwbd {w : List Int} {c : Int} (hc : CW U U.start w c) : c ≤ 13000000000 := by
  obtain ⟨t, d, h1, h2, rfl⟩ := hc
  have := (h.short h12 h1).2
  have hfu : U.fin.getD t.toNat 0 ≤ 1000000000 := by
    by_cases hj : t.toNat < U.fin.length
    · exact (h.uok.1.fin _ (getD_mem U.fin _ 0 hj)).2
    · simp only [List.getD, List.getElem?_eq_none (show U.fin.length ≤ t.toNat by omega), Option.getD_none]; omega
  omega
include hw

theorem end_bd {j : Nat} (hj : j < W.length) : -1 ≤ endW U vs j ∧ endW U vs j ≤ 13000000000 := by
  have hm : MinOf (CW U U.start (W.getD j [])) (endW U vs j) := endW_min (fun a ha => (h.hU a ha).2.1) h.uok.2.1 h.hfin hw hj
  refine ⟨hm.low, ?_⟩
  by_cases e : endW U vs j = -1
  · omega
  · exact h.cwbd h12 (hm.is e)
theorem bst_bd {j : Nat} (hj : j < W.length) : -1 ≤ bstW U W vs W.length j ∧ bstW U W vs W.length j ≤ 13000000000 := by
  have hm := bst_min h hw W.length j hj (by omega)
  refine ⟨hm.low, ?_⟩
  by_cases e : bstW U W vs W.length j = -1
  · omega
  · obtain ⟨v, hv⟩ := hm.is e
    exact h.cwbd h12 hv
omit h12 in
theorem bst0_iff : bstW U W vs W.length 0 < 0 ↔ ¬ ∃ w c, CW U U.start w c := by
  have hm := bst_min h hw W.length 0 hw.pos (by omega)
  rw [hw.w0] at hm
  constructor
  · rintro h1 ⟨w, c, hc⟩
    have := (hm.le (c := c) ⟨w, hc⟩)
    have := hm.low
    omega
  · intro hn
    have hl := hm.low
    refine Classical.byContradiction fun hc => ?_
    obtain ⟨v, hv⟩ := hm.is (by omega)
    exact hn ⟨_, _, hv⟩
end

theorem mostW_great (F : TF) : 1000000000 < mostW F ↔ greatB F.arcs F.fin = true := by
  unfold greatB
  rw [Bool.or_eq_true, List.any_eq_true, List.any_eq_true]
  constructor
  · intro h
    refine Classical.byContradiction fun hc => ?_
    rw [not_or] at hc
    have : mostW F ≤ 1000000000 := mostL_le _ _ (mostL_le _ _ (by omega) fun x hx => by
      obtain ⟨a, ha, rfl⟩ := List.mem_map.1 hx
      refine Classical.byContradiction fun hx => hc.1 ⟨a, ha, ?_⟩
      simp only [decide_eq_true_eq]
      omega) fun x hx => by
      refine Classical.byContradiction fun hx2 => hc.2 ⟨x, hx, ?_⟩
      simp only [decide_eq_true_eq]
      omega
    omega
  · rintro (⟨a, ha, h⟩ | ⟨x, hx, h⟩)
    · have := mostW_arc ha
      simp only [decide_eq_true_eq] at h
      omega
    · have := mostW_fin hx
      simp only [decide_eq_true_eq] at h
      omega

section
variable {U : TF} {W vs : List (List Int)}
theorem lrF_app (first M : List Nat) {n : Nat} (hn : n ≤ first.length) : lrF U W vs (first ++ M) n = lrF U W vs first n := by
  unfold lrF
  refine List.map_congr_left fun k hk => ?_
  have := List.mem_range.1 hk
  have e : (first ++ M).getD k 0 = first.getD k 0 := by
    simp only [List.getD]
    rw [List.getElem?_append_left (by omega)]
  rw [e]
theorem lrF_succ (first : List Nat) (n : Nat) : lrF U W vs first (n + 1) = lrF U W vs first n ++ [lrE U W vs n (first.getD n 0)] := by
  unfold lrF
  rw [List.range_succ, List.map_append]
  rfl
theorem lrF_len (first : List Nat) (n : Nat) : (lrF U W vs first n).length = n := by simp [lrF]
theorem LrI.start (h : 1 ≤ W.length) : LrI W [0] := ⟨fun j hj => by rw [List.mem_singleton] at hj; omega, by simp, by simp⟩
theorem LrI.lsF0 : lsF U W vs [] 0 = [0] := by simp [lsF, lsN]
end
end Go.Fw
