/- Walks of the functions: what each computes. -/
import Derived.Test.YtlpfbhmfddbgdaaS14
import Derived.Test.YtlpfbhmfddbgdaaS13
import Derived.Test.YtlpfbhmfddbgdaaS07

set_option linter.unusedSimpArgs false
set_option linter.unusedVariables false

namespace Go.Fw
open Go Go.Proofs

/-- What a pair tells. -/
def finP (F G : TF) (q : Trip) : Int := if F.fin.getD q.a.toNat 0 ≠ -1 ∧ G.fin.getD q.b.toNat 0 ≠ -1 then F.fin.getD q.a.toNat 0 + G.fin.getD q.b.toNat 0 else -1

/-- One more pair, if it is new. -/
def numP (ps : List Trip) (q : Trip) : List Trip := if q ∈ ps then ps else ps ++ [q]

def greatP (F G : TF) (ps : List Trip) (g : Bool) (q : Trip) : Bool := if q ∈ ps then g else g || decide (1000000000 < finP F G q)

/-- The numbers of pairs. -/
structure NumM (es : List (Trip × Int × Nat)) (ps : List Trip) : Prop where
  len : es.length = ps.length
  lk : ∀ q, @lkM EK.trip.ty EK.int.ty (EK.instDeq .trip) es q = if q ∈ ps then some ((ps.idxOf q : Nat) : Int) else none

theorem idxOf_append_of_mem {l m : List Trip} {x : Trip} (h : x ∈ l) : (l ++ m).idxOf x = l.idxOf x := by
  rw [List.idxOf_append, if_pos h]
theorem idxOf_append_of_notMem {l m : List Trip} {x : Trip} (h : x ∉ l) : (l ++ m).idxOf x = m.idxOf x + l.length := by
  rw [List.idxOf_append, if_neg h]

theorem NumM.new {es : List (Trip × Int × Nat)} {ps : List Trip} (h : NumM es ps) {q : Trip} (hq : q ∉ ps) (clk : Nat) : NumM (@insM EK.trip.ty EK.int.ty (EK.instDeq .trip) es clk q ((ps.length : Nat) : Int)).1 (ps ++ [q]) := by
  have hn : ¬ (@lkM EK.trip.ty EK.int.ty (EK.instDeq .trip) es q).isSome = true := by rw [h.lk q, if_neg hq]; simp
  refine ⟨?_, fun x => ?_⟩
  · unfold insM
    rw [if_neg hn]
    simp [h.len]
  · rw [lkM_insM]
    by_cases e : x = q
    · subst e
      rw [if_pos rfl, if_pos (by simp), idxOf_append_of_notMem hq]
      simp
    · rw [if_neg e, h.lk x]
      by_cases hx : x ∈ ps
      · rw [if_pos hx, if_pos (by simp [hx]), idxOf_append_of_mem hx]
      · rw [if_neg hx, if_neg (by simp [hx, e])]

/-- The composer: lists of what is left, of what is told, of arcs. -/
abbrev cC (F G : TF) (il lo nl cl jf nf cf ir nr cr : Nat) (g : Bool) : List SC := [.i F.st, .i F.start, .sl 0 1 0 F.fin.length F.capF, .sl 1 5 0 F.arcs.length F.capA, .i G.st, .i G.start, .sl 2 1 0 G.fin.length G.capF, .sl 3 5 0 G.arcs.length G.capA, .mp 5, .sl il 3 lo nl cl, .i 0, .i 0, .sl jf 1 0 nf cf, .sl ir 5 0 nr cr, .b g]

/-- What is left, as a part of a list. -/
structure LeftOk (L : List Trip) (lo cl sp : Nat) (ls : List Trip) : Prop where
  is : sub L lo ls.length = ls
  le : lo + ls.length ≤ L.length
  cp : ls.length ≤ cl
  ca : lo + cl ≤ L.length + sp

theorem LeftOk.all (ls : List Trip) (sp : Nat) : LeftOk ls 0 (ls.length + sp) sp ls := ⟨by simp [sub], by omega, by omega, by omega⟩

theorem app_sub {α : Type} (l L : List α) (lo n : Nat) (x : α) (h : sub L lo n = l) : lOp.appL (sub L lo n) (sub [x] 0 1) = l ++ [x] := by
  rw [h]
  simp [sub, lOp.appL]

/-- Pairs in range. -/
structure PRng (F G : TF) (q : Trip) : Prop where
  a0 : 0 ≤ q.a
  a1 : q.a < F.fin.length
  b0 : 0 ≤ q.b
  b1 : q.b < G.fin.length

section
variable (F G : TF) (es : List (Trip × Int × Nat)) (clk : Nat) (ps L ls : List Trip) (lo cl spL : Nat) (fin : List Int) (spF nr cr : Nat) (g : Bool) (q : Trip)
    (hF : ∀ n ∈ F.fin, -1 ≤ n ∧ n ≤ 1000000000) (hG : ∀ n ∈ G.fin, -1 ≤ n ∧ n ≤ 1000000000) (hq : PRng F G q) (hm : NumM es ps) (hps : ps.length ≤ 1000000) (hls : ls.length ≤ 1000000) (hfl : fin.length ≤ 1000000) (hpl : LeftOk L lo cl spL ls)
include hF hG hq hm hps hls hfl hpl

omit hF hG hps hfl in
set_option maxHeartbeats 16000000 in
set_option maxRecDepth 20000 in
theorem number_in (hin : q ∈ ps) :
    Ct Try.prog 88 [.c (.ptr 4 0), SV.a (SA.agg [SC.i (Trip.a q), SC.i (Trip.b q), SC.i (Trip.c q)])] [] [(0, .arr false 3 .int F.fin 0), (2, .arr false 3 .int G.fin 0), (4, .box 107 (cC F G 6 lo ls.length cl 7 fin.length (fin.length + spF) 8 nr cr g)), (5, .map .trip .int es clk), (6, .arr true 110 .trip L spL), (7, .arr true 3 .int fin spF)] 9
    (fun v s => ∃ es' clk' L' lo' cl' sl sf, NumM es' (ps) ∧ v = .i ((((ps).idxOf q : Nat)) : Int) ∧ LeftOk L' lo' cl' sl ls ∧
      s = ⟨[], [(4, .box 107 (cC F G 9 lo' (ls).length cl' 10 (fin).length ((fin).length + sf) 8 nr cr (g))), (5, .map .trip .int es' clk'), (9, .arr true 110 .trip L' sl), (10, .arr true 3 .int (fin) sf)], 11⟩) := by
  obtain ⟨qa, qb, qc⟩ := q
  have hx := hm.lk ⟨qa, qb, qc⟩
  have hml := hm.len
  have hl1 := hpl.le
  have hl2 := hpl.cp
  have hl3 := hpl.ca
  obtain ⟨a0, a1, b0, b1⟩ := hq
  simp only at a0 a1 b0 b1
  refine ctW Try.tyOk 12 [] Try.func88 rfl (by simp [SV.lt, SA.lt, SC.lt, arcV, fV]) (by simp) (fr := [(0, .c (.ptr 4 0)), (1, .a (.agg [.i qa, .i qb, .i qc]))]) rfl ?_
  rw [if_pos hin] at hx
  repeat' (first | exact rfl | ((conv => whnf); first | ((first | refine qA (fun h => ?_) fun h => ?_ | refine qN (fun h => ?_) fun h => ?_ | refine qB (fun h => ?_) fun h => ?_ | refine qC (fun h => ?_) fun h => ?_) <;> try exact absurd h (by omega)) | refine qM (fun h => ?_) fun h => ?_ | refine oM (by (first | omega | (simp only [lenS, InI, nmin, EK.sz]; omega) | (simp only [lenS, InI, nmin, EK.sz] at *; omega))) ?_ | refine oM ?_ ?_ | refine bM ?_ ?_ | refine draw_of Try.mixed Try.tyOk 60 (by kernel_rfl) ?_))
  · (conv => whnf)
    refine ⟨[(9, some 6), (10, some 7)], [(4, .box 107 (cC F G 9 lo ls.length cl 10 fin.length (fin.length + spF) 8 nr cr g)), (5, .map .trip .int es clk), (9, .arr true 110 .trip L spL), (10, .arr true 3 .int fin spF)], 11, .i ((ps.idxOf (⟨qa, qb, qc⟩ : Trip) : Nat) : Int), ⟨by rfl, trivial, by simp [eqFr, eqHp, eqV, eqA, eqC, eqO, eqCs, eqAs, look_cons, look, rn, EK.cast, EK.sz, eqCaps]⟩, ?_, es, clk, L, lo, cl, spL, spF, hm, rfl, hpl, rfl⟩
    simp only [eqV, eqA, eqC, hx, Option.getD_some]
  · rw [hx] at h; cases h

omit hps in
set_option maxHeartbeats 16000000 in
set_option maxRecDepth 20000 in
theorem number_new (hin : q ∉ ps) :
    Ct Try.prog 88 [.c (.ptr 4 0), SV.a (SA.agg [SC.i (Trip.a q), SC.i (Trip.b q), SC.i (Trip.c q)])] [] [(0, .arr false 3 .int F.fin 0), (2, .arr false 3 .int G.fin 0), (4, .box 107 (cC F G 6 lo ls.length cl 7 fin.length (fin.length + spF) 8 nr cr g)), (5, .map .trip .int es clk), (6, .arr true 110 .trip L spL), (7, .arr true 3 .int fin spF)] 9
    (fun v s => ∃ es' clk' L' lo' cl' sl sf, NumM es' (ps ++ [q]) ∧ v = .i ((((ps ++ [q]).idxOf q : Nat)) : Int) ∧ LeftOk L' lo' cl' sl (ls ++ [q]) ∧
      s = ⟨[], [(4, .box 107 (cC F G 9 lo' (ls ++ [q]).length cl' 10 (fin ++ [finP F G q]).length ((fin ++ [finP F G q]).length + sf) 8 nr cr (g || decide (1000000000 < finP F G q)))), (5, .map .trip .int es' clk'), (9, .arr true 110 .trip L' sl), (10, .arr true 3 .int (fin ++ [finP F G q]) sf)], 11⟩) := by
  obtain ⟨qa, qb, qc⟩ := q
  have hx := hm.lk ⟨qa, qb, qc⟩
  have hml := hm.len
  have hl1 := hpl.le
  have hl2 := hpl.cp
  have hl3 := hpl.ca
  obtain ⟨a0, a1, b0, b1⟩ := hq
  simp only at a0 a1 b0 b1
  have hf1 := hF _ (getD_mem F.fin (0 + qa.toNat) EK.int.dflt (by omega))
  have hg1 := hG _ (getD_mem G.fin (0 + qb.toNat) EK.int.dflt (by omega))
  have hnew := hm.new hin clk
  rw [← hml] at hnew
  have hidx : (ps ++ [(⟨qa, qb, qc⟩ : Trip)]).idxOf ⟨qa, qb, qc⟩ = es.length := by rw [idxOf_append_of_notMem hin, hml]; simp
  have hfp : finP F G ⟨qa, qb, qc⟩ = if F.fin.getD (0 + qa.toNat) EK.int.dflt ≠ -1 ∧ G.fin.getD (0 + qb.toNat) EK.int.dflt ≠ -1 then F.fin.getD (0 + qa.toNat) EK.int.dflt + G.fin.getD (0 + qb.toNat) EK.int.dflt else -1 := by rw [Nat.zero_add, Nat.zero_add]; rfl
  refine ctW Try.tyOk 12 [] Try.func88 rfl (by simp [SV.lt, SA.lt, SC.lt, arcV, fV]) (by simp) (fr := [(0, .c (.ptr 4 0)), (1, .a (.agg [.i qa, .i qb, .i qc]))]) rfl ?_
  rw [if_neg hin] at hx
  by_cases hfg : F.fin.getD (0 + qa.toNat) EK.int.dflt ≠ -1 ∧ G.fin.getD (0 + qb.toNat) EK.int.dflt ≠ -1
  · rw [if_pos hfg] at hfp
    obtain ⟨hfa, hga⟩ := hfg
    cases g with
    | true =>
      repeat' (first | exact rfl | ((conv => whnf); first | ((first | refine qA (fun h => ?_) fun h => ?_ | refine qN (fun h => ?_) fun h => ?_ | refine qB (fun h => ?_) fun h => ?_ | refine qC (fun h => ?_) fun h => ?_) <;> try exact absurd h (by omega)) | refine qM (fun h => ?_) fun h => ?_ | refine oM (by (first | omega | (simp only [lenS, InI, nmin, EK.sz]; omega) | (simp only [lenS, InI, nmin, EK.sz] at *; omega))) ?_ | refine oM ?_ ?_ | refine bM ?_ ?_ | refine draw_of Try.mixed Try.tyOk 60 (by kernel_rfl) ?_ | intro _))
      · rw [hx] at h; cases h
      · (conv => whnf)
        simp only [← hfp]
        rename_i h0 sp1 h1 sp2
        refine ⟨[(9, some 11), (10, some 13)], [(4, .box 107 (cC F G 9 0 (ls ++ [(⟨qa, qb, qc⟩ : Trip)]).length ((ls ++ [(⟨qa, qb, qc⟩ : Trip)]).length + sp1) 10 (fin ++ [finP F G ⟨qa, qb, qc⟩]).length ((fin ++ [finP F G ⟨qa, qb, qc⟩]).length + sp2) 8 nr cr (true || decide (1000000000 < finP F G ⟨qa, qb, qc⟩)))), (5, .map .trip .int (@insM EK.trip.ty EK.int.ty (EK.instDeq .trip) es clk ⟨qa, qb, qc⟩ (es.length : Int)).1 (@insM EK.trip.ty EK.int.ty (EK.instDeq .trip) es clk ⟨qa, qb, qc⟩ (es.length : Int)).2), (9, .arr true 110 .trip (ls ++ [(⟨qa, qb, qc⟩ : Trip)]) sp1), (10, .arr true 3 .int (fin ++ [finP F G ⟨qa, qb, qc⟩]) sp2)], 11, .i (es.length : Int), ⟨by rfl, trivial, ?_⟩, by simp [eqV, eqA, eqC], _, _, _, 0, _, sp1, sp2, hnew, by rw [hidx], LeftOk.all _ _, rfl⟩
        simp [eqHp, eqO, eqC, eqCs, look_cons, look, rn, EK.cast, EK.sz, app_one, app_sub _ L lo ls.length _ hpl.is, Nat.le_refl]
    | false =>
      repeat' (first | exact rfl | ((conv => whnf); first | ((first | refine qA (fun h => ?_) fun h => ?_ | refine qN (fun h => ?_) fun h => ?_ | refine qB (fun h => ?_) fun h => ?_ | refine qC (fun h => ?_) fun h => ?_) <;> try exact absurd h (by omega)) | refine qM (fun h => ?_) fun h => ?_ | refine oM (by (first | omega | (simp only [lenS, InI, nmin, EK.sz]; omega) | (simp only [lenS, InI, nmin, EK.sz] at *; omega))) ?_ | refine oM ?_ ?_ | refine bM ?_ ?_ | refine draw_of Try.mixed Try.tyOk 60 (by kernel_rfl) ?_ | intro _))
      · rw [hx] at h; cases h
      · (conv => whnf)
        simp only [← hfp]
        rename_i h0 sp1 h1 sp2
        refine ⟨[(9, some 11), (10, some 13)], [(4, .box 107 (cC F G 9 0 (ls ++ [(⟨qa, qb, qc⟩ : Trip)]).length ((ls ++ [(⟨qa, qb, qc⟩ : Trip)]).length + sp1) 10 (fin ++ [finP F G ⟨qa, qb, qc⟩]).length ((fin ++ [finP F G ⟨qa, qb, qc⟩]).length + sp2) 8 nr cr (false || decide (1000000000 < finP F G ⟨qa, qb, qc⟩)))), (5, .map .trip .int (@insM EK.trip.ty EK.int.ty (EK.instDeq .trip) es clk ⟨qa, qb, qc⟩ (es.length : Int)).1 (@insM EK.trip.ty EK.int.ty (EK.instDeq .trip) es clk ⟨qa, qb, qc⟩ (es.length : Int)).2), (9, .arr true 110 .trip (ls ++ [(⟨qa, qb, qc⟩ : Trip)]) sp1), (10, .arr true 3 .int (fin ++ [finP F G ⟨qa, qb, qc⟩]) sp2)], 11, .i (es.length : Int), ⟨by rfl, trivial, ?_⟩, by simp [eqV, eqA, eqC], _, _, _, 0, _, sp1, sp2, hnew, by rw [hidx], LeftOk.all _ _, rfl⟩
        simp [eqHp, eqO, eqC, eqCs, look_cons, look, rn, EK.cast, EK.sz, app_one, app_sub _ L lo ls.length _ hpl.is]
  · rw [if_neg hfg] at hfp
    have hfx : F.fin.getD (0 + qa.toNat) EK.int.dflt = -1 ∨ G.fin.getD (0 + qb.toNat) EK.int.dflt = -1 := by omega
    cases g with
    | true =>
      by_cases hf2 : F.fin.getD (0 + qa.toNat) EK.int.dflt = -1
      · repeat' (first | exact rfl | ((conv => whnf); first | ((first | refine qA (fun h => ?_) fun h => ?_ | refine qN (fun h => ?_) fun h => ?_ | refine qB (fun h => ?_) fun h => ?_ | refine qC (fun h => ?_) fun h => ?_) <;> try exact absurd h (by omega)) | refine qM (fun h => ?_) fun h => ?_ | refine oM (by (first | omega | (simp only [lenS, InI, nmin, EK.sz]; omega) | (simp only [lenS, InI, nmin, EK.sz] at *; omega))) ?_ | refine oM ?_ ?_ | refine bM ?_ ?_ | refine draw_of Try.mixed Try.tyOk 60 (by kernel_rfl) ?_ | intro _))
        · rw [hx] at h; cases h
        · (conv => whnf)
          rename_i h0 sp1 sp2
          refine ⟨[(9, some 11), (10, some 13)], [(4, .box 107 (cC F G 9 0 (ls ++ [(⟨qa, qb, qc⟩ : Trip)]).length ((ls ++ [(⟨qa, qb, qc⟩ : Trip)]).length + sp1) 10 (fin ++ [finP F G ⟨qa, qb, qc⟩]).length ((fin ++ [finP F G ⟨qa, qb, qc⟩]).length + sp2) 8 nr cr (true || decide (1000000000 < finP F G ⟨qa, qb, qc⟩)))), (5, .map .trip .int (@insM EK.trip.ty EK.int.ty (EK.instDeq .trip) es clk ⟨qa, qb, qc⟩ (es.length : Int)).1 (@insM EK.trip.ty EK.int.ty (EK.instDeq .trip) es clk ⟨qa, qb, qc⟩ (es.length : Int)).2), (9, .arr true 110 .trip (ls ++ [(⟨qa, qb, qc⟩ : Trip)]) sp1), (10, .arr true 3 .int (fin ++ [finP F G ⟨qa, qb, qc⟩]) sp2)], 11, .i (es.length : Int), ⟨by rfl, trivial, ?_⟩, by simp [eqV, eqA, eqC], _, _, _, 0, _, sp1, sp2, hnew, by rw [hidx], LeftOk.all _ _, rfl⟩
          simp [eqHp, eqO, eqC, eqCs, look_cons, look, rn, EK.cast, EK.sz, app_one, app_sub _ L lo ls.length _ hpl.is, hfp]
      · repeat' (first | exact rfl | ((conv => whnf); first | ((first | refine qA (fun h => ?_) fun h => ?_ | refine qN (fun h => ?_) fun h => ?_ | refine qB (fun h => ?_) fun h => ?_ | refine qC (fun h => ?_) fun h => ?_) <;> try exact absurd h (by omega)) | refine qM (fun h => ?_) fun h => ?_ | refine oM (by (first | omega | (simp only [lenS, InI, nmin, EK.sz]; omega) | (simp only [lenS, InI, nmin, EK.sz] at *; omega))) ?_ | refine oM ?_ ?_ | refine bM ?_ ?_ | refine draw_of Try.mixed Try.tyOk 60 (by kernel_rfl) ?_ | intro _))
        · rw [hx] at h; cases h
        · (conv => whnf)
          rename_i h0 sp1 h1 sp2
          refine ⟨[(9, some 11), (10, some 13)], [(4, .box 107 (cC F G 9 0 (ls ++ [(⟨qa, qb, qc⟩ : Trip)]).length ((ls ++ [(⟨qa, qb, qc⟩ : Trip)]).length + sp1) 10 (fin ++ [finP F G ⟨qa, qb, qc⟩]).length ((fin ++ [finP F G ⟨qa, qb, qc⟩]).length + sp2) 8 nr cr (true || decide (1000000000 < finP F G ⟨qa, qb, qc⟩)))), (5, .map .trip .int (@insM EK.trip.ty EK.int.ty (EK.instDeq .trip) es clk ⟨qa, qb, qc⟩ (es.length : Int)).1 (@insM EK.trip.ty EK.int.ty (EK.instDeq .trip) es clk ⟨qa, qb, qc⟩ (es.length : Int)).2), (9, .arr true 110 .trip (ls ++ [(⟨qa, qb, qc⟩ : Trip)]) sp1), (10, .arr true 3 .int (fin ++ [finP F G ⟨qa, qb, qc⟩]) sp2)], 11, .i (es.length : Int), ⟨by rfl, trivial, ?_⟩, by simp [eqV, eqA, eqC], _, _, _, 0, _, sp1, sp2, hnew, by rw [hidx], LeftOk.all _ _, rfl⟩
          simp [eqHp, eqO, eqC, eqCs, look_cons, look, rn, EK.cast, EK.sz, app_one, app_sub _ L lo ls.length _ hpl.is, hfp]
    | false =>
      by_cases hf2 : F.fin.getD (0 + qa.toNat) EK.int.dflt = -1
      · repeat' (first | exact rfl | ((conv => whnf); first | ((first | refine qA (fun h => ?_) fun h => ?_ | refine qN (fun h => ?_) fun h => ?_ | refine qB (fun h => ?_) fun h => ?_ | refine qC (fun h => ?_) fun h => ?_) <;> try exact absurd h (by omega)) | refine qM (fun h => ?_) fun h => ?_ | refine oM (by (first | omega | (simp only [lenS, InI, nmin, EK.sz]; omega) | (simp only [lenS, InI, nmin, EK.sz] at *; omega))) ?_ | refine oM ?_ ?_ | refine bM ?_ ?_ | refine draw_of Try.mixed Try.tyOk 60 (by kernel_rfl) ?_ | intro _))
        · rw [hx] at h; cases h
        · (conv => whnf)
          rename_i h0 sp1 sp2
          refine ⟨[(9, some 11), (10, some 13)], [(4, .box 107 (cC F G 9 0 (ls ++ [(⟨qa, qb, qc⟩ : Trip)]).length ((ls ++ [(⟨qa, qb, qc⟩ : Trip)]).length + sp1) 10 (fin ++ [finP F G ⟨qa, qb, qc⟩]).length ((fin ++ [finP F G ⟨qa, qb, qc⟩]).length + sp2) 8 nr cr (false || decide (1000000000 < finP F G ⟨qa, qb, qc⟩)))), (5, .map .trip .int (@insM EK.trip.ty EK.int.ty (EK.instDeq .trip) es clk ⟨qa, qb, qc⟩ (es.length : Int)).1 (@insM EK.trip.ty EK.int.ty (EK.instDeq .trip) es clk ⟨qa, qb, qc⟩ (es.length : Int)).2), (9, .arr true 110 .trip (ls ++ [(⟨qa, qb, qc⟩ : Trip)]) sp1), (10, .arr true 3 .int (fin ++ [finP F G ⟨qa, qb, qc⟩]) sp2)], 11, .i (es.length : Int), ⟨by rfl, trivial, ?_⟩, by simp [eqV, eqA, eqC], _, _, _, 0, _, sp1, sp2, hnew, by rw [hidx], LeftOk.all _ _, rfl⟩
          simp [eqHp, eqO, eqC, eqCs, look_cons, look, rn, EK.cast, EK.sz, app_one, app_sub _ L lo ls.length _ hpl.is, hfp]
      · repeat' (first | exact rfl | ((conv => whnf); first | ((first | refine qA (fun h => ?_) fun h => ?_ | refine qN (fun h => ?_) fun h => ?_ | refine qB (fun h => ?_) fun h => ?_ | refine qC (fun h => ?_) fun h => ?_) <;> try exact absurd h (by omega)) | refine qM (fun h => ?_) fun h => ?_ | refine oM (by (first | omega | (simp only [lenS, InI, nmin, EK.sz]; omega) | (simp only [lenS, InI, nmin, EK.sz] at *; omega))) ?_ | refine oM ?_ ?_ | refine bM ?_ ?_ | refine draw_of Try.mixed Try.tyOk 60 (by kernel_rfl) ?_ | intro _))
        · rw [hx] at h; cases h
        · (conv => whnf)
          rename_i h0 sp1 h1 sp2
          refine ⟨[(9, some 11), (10, some 13)], [(4, .box 107 (cC F G 9 0 (ls ++ [(⟨qa, qb, qc⟩ : Trip)]).length ((ls ++ [(⟨qa, qb, qc⟩ : Trip)]).length + sp1) 10 (fin ++ [finP F G ⟨qa, qb, qc⟩]).length ((fin ++ [finP F G ⟨qa, qb, qc⟩]).length + sp2) 8 nr cr (false || decide (1000000000 < finP F G ⟨qa, qb, qc⟩)))), (5, .map .trip .int (@insM EK.trip.ty EK.int.ty (EK.instDeq .trip) es clk ⟨qa, qb, qc⟩ (es.length : Int)).1 (@insM EK.trip.ty EK.int.ty (EK.instDeq .trip) es clk ⟨qa, qb, qc⟩ (es.length : Int)).2), (9, .arr true 110 .trip (ls ++ [(⟨qa, qb, qc⟩ : Trip)]) sp1), (10, .arr true 3 .int (fin ++ [finP F G ⟨qa, qb, qc⟩]) sp2)], 11, .i (es.length : Int), ⟨by rfl, trivial, ?_⟩, by simp [eqV, eqA, eqC], _, _, _, 0, _, sp1, sp2, hnew, by rw [hidx], LeftOk.all _ _, rfl⟩
          simp [eqHp, eqO, eqC, eqCs, look_cons, look, rn, EK.cast, EK.sz, app_one, app_sub _ L lo ls.length _ hpl.is, hfp]
end

theorem numP_drop {ps : List Trip} {k : Nat} (hk : k ≤ ps.length) {q : Trip} (h : q ∉ ps) : (ps ++ [q]).drop k = ps.drop k ++ [q] := by rw [List.drop_append_of_le_length hk]

section
variable (F G : TF) (es : List (Trip × Int × Nat)) (clk : Nat) (ps L : List Trip) (k lo cl spL spF nr cr : Nat) (g : Bool) (q : Trip)
theorem number_c (hF : ∀ n ∈ F.fin, -1 ≤ n ∧ n ≤ 1000000000) (hG : ∀ n ∈ G.fin, -1 ≤ n ∧ n ≤ 1000000000) (hq : PRng F G q) (hm : NumM es ps) (hps : ps.length ≤ 1000000) (hL : LeftOk L lo cl spL (ps.drop k)) (hk : k ≤ ps.length) :
    Ct Try.prog 88 [.c (.ptr 4 0), SV.a (SA.agg [SC.i (Trip.a q), SC.i (Trip.b q), SC.i (Trip.c q)])] [] [(0, .arr false 3 .int F.fin 0), (2, .arr false 3 .int G.fin 0), (4, .box 107 (cC F G 6 lo (ps.drop k).length cl 7 (ps.map (finP F G)).length ((ps.map (finP F G)).length + spF) 8 nr cr g)), (5, .map .trip .int es clk), (6, .arr true 110 .trip L spL), (7, .arr true 3 .int (ps.map (finP F G)) spF)] 9
    (fun v s => ∃ es' clk' L' lo' cl' sl sf, NumM es' (numP ps q) ∧ v = .i ((((numP ps q).idxOf q : Nat)) : Int) ∧ LeftOk L' lo' cl' sl ((numP ps q).drop k) ∧
      s = ⟨[], [(4, .box 107 (cC F G 9 lo' ((numP ps q).drop k).length cl' 10 ((numP ps q).map (finP F G)).length (((numP ps q).map (finP F G)).length + sf) 8 nr cr (greatP F G ps g q))), (5, .map .trip .int es' clk'), (9, .arr true 110 .trip L' sl), (10, .arr true 3 .int ((numP ps q).map (finP F G)) sf)], 11⟩) := by
  have hdl : (ps.drop k).length ≤ 1000000 := by rw [List.length_drop]; omega
  have hml : (ps.map (finP F G)).length ≤ 1000000 := by rw [List.length_map]; exact hps
  by_cases hin : q ∈ ps
  · have e1 : numP ps q = ps := if_pos hin
    have e2 : greatP F G ps g q = g := if_pos hin
    rw [e1, e2]
    exact number_in F G es clk ps L (ps.drop k) lo cl spL (ps.map (finP F G)) spF nr cr g q hq hm hdl hL hin
  · have e1 : numP ps q = ps ++ [q] := if_neg hin
    have e2 : greatP F G ps g q = (g || decide (1000000000 < finP F G q)) := if_neg hin
    rw [e1, e2, numP_drop hk hin, List.map_append]
    exact number_new F G es clk ps L (ps.drop k) lo cl spL (ps.map (finP F G)) spF nr cr g q hF hG hq hm hdl hml hL hin
end
end Go.Fw

namespace Go.Fw
open Go Go.Proofs

/-- What the composer holds: pairs, arcs, and whether a number was too great. -/
abbrev CS := List Trip × List Arc × Bool

/-- One more arc. -/
def arcP (ps : List Trip) (raw : List Arc) (n : Int) (s : Stp) : List Arc := raw ++ [⟨n, s.i, s.o, ((numP ps s.p).idxOf s.p : Nat), s.w⟩]
def grP (F G : TF) (ps : List Trip) (g : Bool) (s : Stp) : Bool := greatP F G ps g s.p || decide (1000000000 < s.w)
def oneC (F G : TF) (n : Int) (x : CS) (s : Stp) : CS := (numP x.1 s.p, arcP x.1 x.2.1 n s, grP F G x.1 x.2.2 s)

abbrev hpCo (F G : TF) (k : Nat) (ps : List Trip) (raw : List Arc) (g : Bool) (es : List (Trip × Int × Nat)) (clk : Nat) (L : List Trip) (lo cl sl sf sr i6 i7 i8 : Nat) : List (Nat × SO) := [(4, .box 107 (cC F G i6 lo (ps.drop k).length cl i7 (ps.map (finP F G)).length ((ps.map (finP F G)).length + sf) i8 raw.length (raw.length + sr) g)), (5, .map .trip .int es clk), (i6, .arr true 110 .trip L sl), (i7, .arr true 3 .int (ps.map (finP F G)) sf), (i8, .arr true 47 .arc raw sr)]

set_option maxHeartbeats 16000000 in
set_option maxRecDepth 20000 in
theorem arc_c (F G : TF) (ps : List Trip) (raw : List Arc) (g : Bool) (k : Nat) (es : List (Trip × Int × Nat)) (clk : Nat) (L : List Trip) (lo cl sl sf sr : Nat) (n : Int) (s : Stp) (hF : ∀ n ∈ F.fin, -1 ≤ n ∧ n ≤ 1000000000) (hG : ∀ n ∈ G.fin, -1 ≤ n ∧ n ≤ 1000000000) (hq : PRng F G s.p) (hm : NumM es ps) (hps : ps.length ≤ 1000000) (hL : LeftOk L lo cl sl (ps.drop k)) (hk : k ≤ ps.length) (hr : raw.length ≤ 10000000) :
    Ct Try.prog 113 [.c (.ptr 4 0), .i n, .i s.i, .i s.o, .i s.w, .a (.agg [.i s.p.a, .i s.p.b, .i s.p.c])] [] ((0, .arr false 3 .int F.fin 0) :: (2, .arr false 3 .int G.fin 0) :: hpCo F G k ps raw g es clk L lo cl sl sf sr 6 7 8) 9
    (fun v t => ∃ es' clk' L' lo' cl' sl sf sr, NumM es' (numP ps s.p) ∧ v = .tup [] ∧ LeftOk L' lo' cl' sl ((numP ps s.p).drop k) ∧ t = ⟨[], hpCo F G k (numP ps s.p) (arcP ps raw n s) (grP F G ps g s) es' clk' L' lo' cl' sl sf sr 9 10 11, 12⟩) := by
  obtain ⟨si, so, sw, ⟨qa, qb, qc⟩⟩ := s
  simp only at hq ⊢
  refine ctW Try.tyOk 12 [] Try.func113 rfl (by simp [SV.lt, SA.lt, SC.lt, arcV, fV]) (by simp) (fr := [(0, .c (.ptr 4 0)), (1, .i n), (2, .i si), (3, .i so), (4, .i sw), (5, .a (.agg [.i qa, .i qb, .i qc]))]) rfl ?_
  repeat' (first | exact rfl | ((conv => whnf); first | ((first | refine qA (fun h => ?_) fun h => ?_ | refine qN (fun h => ?_) fun h => ?_ | refine qB (fun h => ?_) fun h => ?_ | refine qC (fun h => ?_) fun h => ?_) <;> try exact absurd h (by omega)) | refine qM (fun h => ?_) fun h => ?_ | refine oM (by (first | omega | (simp only [lenS, InI, nmin, EK.sz]; omega) | (simp only [lenS, InI, nmin, EK.sz] at *; omega))) ?_ | refine oM ?_ ?_ | refine bM ?_ ?_ | refine draw_of Try.mixed Try.tyOk 60 (by kernel_rfl) ?_))
  (conv => whnf)
  refine callF (number_c F G es clk ps L k lo cl sl sf raw.length (raw.length + sr) g ⟨qa, qb, qc⟩ hF hG hq hm hps hL hk) [0, 1, 2, 3, 4, 5, 6, 7, 8] Try.call88 rfl (by simp [eqLs, eqL, eqO, eqC, eqCs, rn, renOf, look_cons, look, EK.cast]) (by simp [appN, ptrs, eqVL, eqV, eqA, eqC, eqCs, eqAs, eqCaps, EK.sz, rn, renOf, look_cons, look, arcV, fV]) (by simp [appN, ptrs, SV.lt, SA.lt, SC.lt, arcV, fV, lenN]) ?_
  rintro _ _ ⟨es', clk', L', lo', cl', sl', sf', hm', rfl, hp', rfl⟩
  unfold arcP grP
  simp only
  generalize hps' : numP ps ⟨qa, qb, qc⟩ = ps' at *
  generalize hg' : greatP F G ps g ⟨qa, qb, qc⟩ = g'
  cases g' with
  | true =>
    repeat' (first | exact rfl | ((conv => whnf); first | ((first | refine qA (fun h => ?_) fun h => ?_ | refine qN (fun h => ?_) fun h => ?_ | refine qB (fun h => ?_) fun h => ?_ | refine qC (fun h => ?_) fun h => ?_) <;> try exact absurd h (by omega)) | refine qM (fun h => ?_) fun h => ?_ | refine oM (by (first | omega | (simp only [lenS, InI, nmin, EK.sz]; omega) | (simp only [lenS, InI, nmin, EK.sz] at *; omega))) ?_ | refine oM ?_ ?_ | refine bM ?_ ?_ | refine draw_of Try.mixed Try.tyOk 60 (by kernel_rfl) ?_ | intro _))
    (conv => whnf)
    rename_i sp3
    refine ⟨[(9, some 10), (10, some 11), (11, some 13)], hpCo F G k ps' (raw ++ [⟨n, si, so, (ps'.idxOf ⟨qa, qb, qc⟩ : Nat), sw⟩]) (true || decide (1000000000 < sw)) es' clk' L' lo' cl' sl' sf' sp3 9 10 11, 12, .tup [], ⟨by rfl, trivial, ?_⟩, by simp [eqV, eqAs], es', clk', L', lo', cl', sl', sf', sp3, hm', rfl, hp', rfl⟩
    simp [eqHp, eqO, eqC, eqCs, look_cons, look, rn, EK.cast, EK.sz, app_one]
  | false =>
    repeat' (first | exact rfl | ((conv => whnf); first | ((first | refine qA (fun h => ?_) fun h => ?_ | refine qN (fun h => ?_) fun h => ?_ | refine qB (fun h => ?_) fun h => ?_ | refine qC (fun h => ?_) fun h => ?_) <;> try exact absurd h (by omega)) | refine qM (fun h => ?_) fun h => ?_ | refine oM (by (first | omega | (simp only [lenS, InI, nmin, EK.sz]; omega) | (simp only [lenS, InI, nmin, EK.sz] at *; omega))) ?_ | refine oM ?_ ?_ | refine bM ?_ ?_ | refine draw_of Try.mixed Try.tyOk 60 (by kernel_rfl) ?_ | intro _))
    (conv => whnf)
    rename_i sp3
    refine ⟨[(9, some 10), (10, some 11), (11, some 13)], hpCo F G k ps' (raw ++ [⟨n, si, so, (ps'.idxOf ⟨qa, qb, qc⟩ : Nat), sw⟩]) (false || decide (1000000000 < sw)) es' clk' L' lo' cl' sl' sf' sp3 9 10 11, 12, .tup [], ⟨by rfl, trivial, ?_⟩, by simp [eqV, eqAs], es', clk', L', lo', cl', sl', sf', sp3, hm', rfl, hp', rfl⟩
    simp [eqHp, eqO, eqC, eqCs, look_cons, look, rn, EK.cast, EK.sz, app_one]

/-! ### All steps of a pair -/
theorem PRng.of {F G : TF} {a b c : Int} (h1 : 0 ≤ a ∧ a < F.fin.length) (h2 : 0 ≤ b ∧ b < G.fin.length) : PRng F G ⟨a, b, c⟩ := ⟨h1.1, h1.2, h2.1, h2.2⟩

/-- Arcs from the i-th on. -/
def restA (F G : TF) (p : Trip) (i : Nat) : List Stp := (F.arcs.drop i).flatMap (stepA G p) ++ G.arcs.flatMap (stepB p)
def restB (G : TF) (p : Trip) (j : Nat) : List Stp := (G.arcs.drop j).flatMap (stepB p)
/-- Those of two from the j-th on. -/
def twoB (p : Trip) (a b : Arc) : List Stp := if b.f = p.b ∧ a.o = b.i ∧ a.o ≠ 0 then [⟨a.i, b.o, a.w + b.w, ⟨a.t, b.t, 0⟩⟩] else []
def restAB (F G : TF) (p : Trip) (i j : Nat) : List Stp := (G.arcs.drop j).flatMap (twoB p (F.arcs.getD i aD)) ++ restA F G p (i + 1)

theorem drop_getDc {α : Type} (l : List α) (i : Nat) (d : α) (h : i < l.length) : l.drop i = l.getD i d :: l.drop (i + 1) := by
  rw [List.drop_eq_getElem_cons h]
  simp [List.getD, h]

theorem restA_skip {F G : TF} {p : Trip} {i : Nat} (h : i < F.arcs.length) (hf : (F.arcs.getD i aD).f ≠ p.a) : restA F G p i = restA F G p (i + 1) := by
  unfold restA
  rw [drop_getDc _ _ aD h, List.flatMap_cons]
  unfold stepA
  rw [if_pos hf]
  rfl
theorem restA_sil {F G : TF} {p : Trip} {i : Nat} (h : i < F.arcs.length) (hf : (F.arcs.getD i aD).f = p.a) (ho : (F.arcs.getD i aD).o = 0 ∧ p.c ≠ 2) : restA F G p i = ⟨(F.arcs.getD i aD).i, 0, (F.arcs.getD i aD).w, ⟨(F.arcs.getD i aD).t, p.b, 1⟩⟩ :: restAB F G p i 0 := by
  unfold restA restAB restA
  rw [drop_getDc _ _ aD h, List.flatMap_cons]
  unfold stepA
  rw [if_neg (fun c => c hf), if_pos ho]
  simp only [List.drop_zero, List.cons_append, List.nil_append, List.append_assoc]
  rfl
theorem restA_lab {F G : TF} {p : Trip} {i : Nat} (h : i < F.arcs.length) (hf : (F.arcs.getD i aD).f = p.a) (ho : ¬((F.arcs.getD i aD).o = 0 ∧ p.c ≠ 2)) : restA F G p i = restAB F G p i 0 := by
  unfold restA restAB restA
  rw [drop_getDc _ _ aD h, List.flatMap_cons]
  unfold stepA
  rw [if_neg (fun c => c hf), if_neg ho]
  simp only [List.drop_zero, List.nil_append, List.append_assoc]
  rfl
theorem restAB_end {F G : TF} {p : Trip} {i : Nat} : restAB F G p i G.arcs.length = restA F G p (i + 1) := by
  unfold restAB
  simp
theorem restAB_yes {F G : TF} {p : Trip} {i j : Nat} (h : j < G.arcs.length) (hc : (G.arcs.getD j aD).f = p.b ∧ (F.arcs.getD i aD).o = (G.arcs.getD j aD).i ∧ (F.arcs.getD i aD).o ≠ 0) : restAB F G p i j = ⟨(F.arcs.getD i aD).i, (G.arcs.getD j aD).o, (F.arcs.getD i aD).w + (G.arcs.getD j aD).w, ⟨(F.arcs.getD i aD).t, (G.arcs.getD j aD).t, 0⟩⟩ :: restAB F G p i (j + 1) := by
  unfold restAB
  rw [drop_getDc _ _ aD h, List.flatMap_cons]
  rw [show twoB p (F.arcs.getD i aD) (G.arcs.getD j aD) = _ from if_pos hc]
  rfl
theorem restAB_no {F G : TF} {p : Trip} {i j : Nat} (h : j < G.arcs.length) (hc : ¬((G.arcs.getD j aD).f = p.b ∧ (F.arcs.getD i aD).o = (G.arcs.getD j aD).i ∧ (F.arcs.getD i aD).o ≠ 0)) : restAB F G p i j = restAB F G p i (j + 1) := by
  unfold restAB
  rw [drop_getDc _ _ aD h, List.flatMap_cons]
  rw [show twoB p (F.arcs.getD i aD) (G.arcs.getD j aD) = _ from if_neg hc]
  rfl
theorem restA_end {F G : TF} {p : Trip} : restA F G p F.arcs.length = restB G p 0 := by
  unfold restA restB
  simp
theorem restB_yes {G : TF} {p : Trip} {j : Nat} (h : j < G.arcs.length) (hc : (G.arcs.getD j aD).f = p.b ∧ (G.arcs.getD j aD).i = 0) : restB G p j = ⟨0, (G.arcs.getD j aD).o, (G.arcs.getD j aD).w, ⟨p.a, (G.arcs.getD j aD).t, 2⟩⟩ :: restB G p (j + 1) := by
  unfold restB
  rw [drop_getDc _ _ aD h, List.flatMap_cons]
  rw [show stepB p (G.arcs.getD j aD) = _ from if_pos hc]
  rfl
theorem restB_no {G : TF} {p : Trip} {j : Nat} (h : j < G.arcs.length) (hc : ¬((G.arcs.getD j aD).f = p.b ∧ (G.arcs.getD j aD).i = 0)) : restB G p j = restB G p (j + 1) := by
  unfold restB
  rw [drop_getDc _ _ aD h, List.flatMap_cons]
  rw [show stepB p (G.arcs.getD j aD) = _ from if_neg hc]
  rfl
theorem restB_end {G : TF} {p : Trip} : restB G p G.arcs.length = [] := by
  unfold restB
  simp
theorem steps_rest {F G : TF} {p : Trip} : steps F G p = restA F G p 0 := rfl

/-- What is left to be done comes to x1. -/
structure CoInv (F G : TF) (n : Int) (k : Nat) (x1 : CS) (ps : List Trip) (raw : List Arc) (g : Bool) (es : List (Trip × Int × Nat)) (L : List Trip) (lo cl sl : Nat) (rest : List Stp) : Prop where
  fin : rest.foldl (oneC F G n) (ps, raw, g) = x1
  num : NumM es ps
  lf : LeftOk L lo cl sl (ps.drop k)
  kl : k ≤ ps.length
  psl : ps.length + rest.length ≤ 1000000
  rl : raw.length + rest.length ≤ 10000000

theorem numP_len (ps : List Trip) (q : Trip) : ps.length ≤ (numP ps q).length ∧ (numP ps q).length ≤ ps.length + 1 := by
  unfold numP
  split
  · omega
  · rw [List.length_append]; exact ⟨Nat.le_add_right _ _, Nat.le_refl _⟩

theorem CoInv.next {F G : TF} {n : Int} {k : Nat} {x1 : CS} {ps : List Trip} {raw : List Arc} {g : Bool} {es es' : List (Trip × Int × Nat)} {L L' : List Trip} {lo cl sl lo' cl' sl' : Nat} {s : Stp} {rest : List Stp} (h : CoInv F G n k x1 ps raw g es L lo cl sl (s :: rest)) (hm : NumM es' (numP ps s.p)) (hp : LeftOk L' lo' cl' sl' ((numP ps s.p).drop k)) :
    CoInv F G n k x1 (numP ps s.p) (arcP ps raw n s) (grP F G ps g s) es' L' lo' cl' sl' rest := by
  have h1 := numP_len ps s.p
  have h3 := h.kl
  have h4 := h.psl
  have h5 := h.rl
  simp only [List.length_cons] at h4 h5
  refine ⟨h.fin, hm, hp, by omega, by omega, ?_⟩
  unfold arcP
  rw [List.length_append]
  simp only [List.length_cons, List.length_nil]
  omega
end Go.Fw

namespace Go.Fw
open Go Go.Proofs

/-- Two transducers in range of each other's composer. -/
structure TwoOk (F G : TF) : Prop where
  fl : F.arcs.length ≤ 100000
  gl : G.arcs.length ≤ 100000
  f : ∀ n ∈ F.fin, -1 ≤ n ∧ n ≤ 1000000000
  g : ∀ n ∈ G.fin, -1 ≤ n ∧ n ≤ 1000000000
  fa : ∀ a ∈ F.arcs, (0 ≤ a.t ∧ a.t < F.fin.length) ∧ 0 ≤ a.w ∧ a.w ≤ 1000000000
  ga : ∀ a ∈ G.arcs, (0 ≤ a.t ∧ a.t < G.fin.length) ∧ 0 ≤ a.w ∧ a.w ≤ 1000000000

set_option maxHeartbeats 16000000 in
set_option maxRecDepth 20000 in
theorem steps_c (F G : TF) (hO : TwoOk F G) (p : Trip) (hp : PRng F G p) (ps : List Trip) (hin : p ∈ ps) (raw : List Arc) (g : Bool) (k : Nat) (es : List (Trip × Int × Nat)) (clk : Nat) (L : List Trip) (lo cl sl sf sr : Nat) (x1 : CS)
    (hI : CoInv F G (ps.idxOf p : Nat) k x1 ps raw g es L lo cl sl (steps F G p)) :
    Ct Try.prog 89 [.c (.ptr 4 0), .a (.agg [.i p.a, .i p.b, .i p.c])] [] (hpG F G ++ hpCo F G k ps raw g es clk L lo cl sl sf sr 6 7 8) 9
    (fun v t => ∃ es' clk' L' lo' cl' sl sf sr, NumM es' x1.1 ∧ v = .tup [] ∧ LeftOk L' lo' cl' sl (x1.1.drop k) ∧ t = ⟨[], hpCo F G k x1.1 x1.2.1 x1.2.2 es' clk' L' lo' cl' sl sf sr 9 10 11, 12⟩) := by
  have hfl := hO.fl
  have hgl := hO.gl
  have hx := hI.num.lk p
  rw [if_pos hin] at hx
  obtain ⟨pa, pb, pc⟩ := p
  simp only
  generalize hn : ((ps.idxOf (⟨pa, pb, pc⟩ : Trip) : Nat) : Int) = n at hI hx
  rw [steps_rest] at hI
  refine ctW Try.tyOk 11 [21, 22, 23, 56, 57, 58, 102, 103, 104] Try.func89 rfl (by simp [SV.lt, SA.lt, SC.lt, arcV, fV]) (by simp) (fr := [(0, .c (.ptr 4 0)), (1, .a (.agg [.i pa, .i pb, .i pc]))]) rfl ?_
  repeat' (first | exact rfl | ((conv => whnf); first | ((first | refine qA (fun h => ?_) fun h => ?_ | refine qN (fun h => ?_) fun h => ?_ | refine qB (fun h => ?_) fun h => ?_ | refine qC (fun h => ?_) fun h => ?_) <;> try exact absurd h (by omega)) | refine qM (fun h => ?_) fun h => ?_ | refine oM (by (first | omega | (simp only [lenS, InI, nmin, EK.sz]; omega) | (simp only [lenS, InI, nmin, EK.sz] at *; omega))) ?_ | refine oM ?_ ?_ | refine bM ?_ ?_ | refine draw_of Try.mixed Try.tyOk 60 (by kernel_rfl) ?_))
  (conv => whnf)
  refine loopI (fun z : Nat × List Trip × List Arc × Bool × List (Trip × Int × Nat) × Nat × List Trip × Nat × Nat × Nat × Nat × Nat => ⟨[(0, .c (.ptr 4 0)), (3, .c (.ptr 9 0)), (4, .i n), (21, .c (.sl 1 5 0 F.arcs.length F.capA)), (22, .i F.arcs.length), (23, .i z.1)],
      hpG F G ++ hpCo F G k z.2.1 z.2.2.1 z.2.2.2.1 z.2.2.2.2.1 z.2.2.2.2.2.1 z.2.2.2.2.2.2.1 z.2.2.2.2.2.2.2.1 z.2.2.2.2.2.2.2.2.1 z.2.2.2.2.2.2.2.2.2.1 z.2.2.2.2.2.2.2.2.2.2.1 z.2.2.2.2.2.2.2.2.2.2.2 10 11 12 ++ [(9, .box 110 [.i pa, .i pb, .i pc])], 13⟩)
    (fun z => z.1 ≤ F.arcs.length ∧ CoInv F G n k x1 z.2.1 z.2.2.1 z.2.2.2.1 z.2.2.2.2.1 z.2.2.2.2.2.2.1 z.2.2.2.2.2.2.2.1 z.2.2.2.2.2.2.2.2.1 z.2.2.2.2.2.2.2.2.2.1 (restA F G ⟨pa, pb, pc⟩ z.1)) (fun z => F.arcs.length - z.1) (0, ps, raw, g, es, clk, L, lo, cl, sl, sf, sr) [(10, some 6), (11, some 7), (12, some 8)] ⟨by rfl, ?_, ?_⟩ ⟨Nat.zero_le _, hI⟩ ?_
  · simp [eqFr, eqHp, eqV, eqA, eqC, eqO, eqCs, eqAs, look_cons, look, rn, EK.cast, EK.sz, eqCaps, hx]
  · simp [eqFr, eqHp, eqV, eqA, eqC, eqO, eqCs, eqAs, look_cons, look, rn, EK.cast, EK.sz, eqCaps]
  · clear hI hin hn hx
    clear es clk L lo cl sl sf sr raw g ps
    rintro ⟨i, ps, raw, g, es, clk, L, lo, cl, sl, sf, sr⟩ ⟨hi, hI⟩
    simp only at hi hI ⊢
    have hps := hI.psl
    have hrl := hI.rl
    (conv => whnf)
    refine condP_dec (fun hi2 => ?_) (fun hi2 => ?_)
    · have e0 : 0 + (i : Int).toNat = i := by omega
      have ham := getD_mem F.arcs i aD (by omega)
      have hfa := hO.fa _ ham
      have rskip := restA_skip (F := F) (G := G) (p := ⟨pa, pb, pc⟩) (i := i) (by omega)
      have rsil := restA_sil (F := F) (G := G) (p := ⟨pa, pb, pc⟩) (i := i) (by omega)
      have rlab := restA_lab (F := F) (G := G) (p := ⟨pa, pb, pc⟩) (i := i) (by omega)
      generalize hax : F.arcs.getD i aD = a at hfa rskip rsil rlab
      have hax1 : F.arcs.getD (0 + (i : Int).toNat) EK.arc.dflt = a := by rw [e0]; exact hax
      have hq : PRng F G ⟨a.t, pb, 1⟩ := PRng.of hfa.1 ⟨hp.b0, hp.b1⟩
      simp only at rskip rsil rlab
      repeat' (first | exact rfl | ((conv => whnf); first | ((first | refine qA (fun h => ?_) fun h => ?_ | refine qN (fun h => ?_) fun h => ?_ | refine qB (fun h => ?_) fun h => ?_ | refine qC (fun h => ?_) fun h => ?_) <;> try exact absurd h (by omega)) | refine qM (fun h => ?_) fun h => ?_ | refine oM (by (first | omega | (simp only [lenS, InI, nmin, EK.sz]; omega) | (simp only [lenS, InI, nmin, EK.sz] at *; omega))) ?_ | refine oM ?_ ?_ | refine bM ?_ ?_ | refine draw_of Try.mixed Try.tyOk 60 (by kernel_rfl) ?_))
      · simp only [hax1] at *
        rw [rskip h] at hI
        (conv => whnf)
        refine ⟨(i + 1, ps, raw, g, es, clk, L, lo, cl, sl, sf, sr), [], ⟨by rfl, ?_, ?_⟩, ⟨by simp only; omega, hI⟩, by simp only; omega⟩
        · simp [eqFr, eqHp, eqV, eqA, eqC, eqO, eqCs, eqAs, look_cons, look, rn, EK.cast, EK.sz, eqCaps]
        · simp [eqFr, eqHp, eqV, eqA, eqC, eqO, eqCs, eqAs, look_cons, look, rn, EK.cast, EK.sz, eqCaps]
      · simp only [hax1] at *
        rw [rsil (by omega) (by omega)] at hI
        have hl := hI.psl
        have hl2 := hI.rl
        simp only [List.length_cons] at hl hl2
        repeat' (first | exact rfl | ((conv => whnf); first | ((first | refine qA (fun h => ?_) fun h => ?_ | refine qN (fun h => ?_) fun h => ?_ | refine qB (fun h => ?_) fun h => ?_ | refine qC (fun h => ?_) fun h => ?_) <;> try exact absurd h (by omega)) | refine qM (fun h => ?_) fun h => ?_ | refine oM (by (first | omega | (simp only [lenS, InI, nmin, EK.sz]; omega) | (simp only [lenS, InI, nmin, EK.sz] at *; omega))) ?_ | refine oM ?_ ?_ | refine bM ?_ ?_ | refine draw_of Try.mixed Try.tyOk 60 (by kernel_rfl) ?_))
        (conv => whnf)
        refine callF (arc_c F G ps raw g k es clk L lo cl sl sf sr n ⟨a.i, 0, a.w, ⟨a.t, pb, 1⟩⟩ hO.f hO.g hq hI.num (by omega) hI.lf hI.kl (by omega)) [0, 1, 2, 3, 4, 5, 10, 11, 12] Try.call113 rfl (by simp [eqLs, eqL, eqO, eqC, eqCs, rn, renOf, look_cons, look, EK.cast]) (by simp [appN, ptrs, eqVL, eqV, eqA, eqC, eqCs, eqAs, eqCaps, EK.sz, rn, renOf, look_cons, look, arcV, fV]) (by simp [appN, ptrs, SV.lt, SA.lt, SC.lt, arcV, fV, lenN]) ?_
        rintro _ _ ⟨es', clk', L', lo', cl', sl', sf', sr', hm', rfl, hp', rfl⟩
        replace hI := hI.next hm' hp'
        generalize numP ps (Stp.p ⟨a.i, 0, a.w, ⟨a.t, pb, 1⟩⟩) = ps1 at hI hm' ⊢
        generalize arcP ps raw n ⟨a.i, 0, a.w, ⟨a.t, pb, 1⟩⟩ = raw1 at hI ⊢
        generalize grP F G ps g ⟨a.i, 0, a.w, ⟨a.t, pb, 1⟩⟩ = g1 at hI ⊢
        repeat' (first | exact rfl | ((conv => whnf); first | ((first | refine qA (fun h => ?_) fun h => ?_ | refine qN (fun h => ?_) fun h => ?_ | refine qB (fun h => ?_) fun h => ?_ | refine qC (fun h => ?_) fun h => ?_) <;> try exact absurd h (by omega)) | refine qM (fun h => ?_) fun h => ?_ | refine oM (by (first | omega | (simp only [lenS, InI, nmin, EK.sz]; omega) | (simp only [lenS, InI, nmin, EK.sz] at *; omega))) ?_ | refine oM ?_ ?_ | refine bM ?_ ?_ | refine draw_of Try.mixed Try.tyOk 60 (by kernel_rfl) ?_))
        (conv => whnf)
        refine loopI (fun z : Nat × List Trip × List Arc × Bool × List (Trip × Int × Nat) × Nat × List Trip × Nat × Nat × Nat × Nat × Nat => ⟨[(0, .c (.ptr 4 0)), (3, .c (.ptr 9 0)), (4, .i n), (6, .c (.ptr 13 0)), (21, .c (.sl 1 5 0 F.arcs.length F.capA)), (22, .i F.arcs.length), (23, .i i), (56, .c (.sl 3 5 0 G.arcs.length G.capA)), (57, .i G.arcs.length), (58, .i z.1)],
            hpG F G ++ hpCo F G k z.2.1 z.2.2.1 z.2.2.2.1 z.2.2.2.2.1 z.2.2.2.2.2.1 z.2.2.2.2.2.2.1 z.2.2.2.2.2.2.2.1 z.2.2.2.2.2.2.2.2.1 z.2.2.2.2.2.2.2.2.2.1 z.2.2.2.2.2.2.2.2.2.2.1 z.2.2.2.2.2.2.2.2.2.2.2 14 15 16 ++ [(9, .box 110 [.i pa, .i pb, .i pc]), (13, .box 47 [.i a.f, .i a.i, .i a.o, .i a.t, .i a.w])], 17⟩)
          (fun z => z.1 ≤ G.arcs.length ∧ CoInv F G n k x1 z.2.1 z.2.2.1 z.2.2.2.1 z.2.2.2.2.1 z.2.2.2.2.2.2.1 z.2.2.2.2.2.2.2.1 z.2.2.2.2.2.2.2.2.1 z.2.2.2.2.2.2.2.2.2.1 (restAB F G ⟨pa, pb, pc⟩ i z.1)) (fun z => G.arcs.length - z.1) (0, ps1, raw1, g1, es', clk', L', lo', cl', sl', sf', sr') [(14, some 14), (15, some 15), (16, some 16)] ⟨by rfl, ?_, ?_⟩ ⟨Nat.zero_le _, hI⟩ ?_
        · simp [eqFr, eqHp, eqV, eqA, eqC, eqO, eqCs, eqAs, look_cons, look, rn, EK.cast, EK.sz, eqCaps]
        · simp [eqFr, eqHp, eqV, eqA, eqC, eqO, eqCs, eqAs, look_cons, look, rn, EK.cast, EK.sz, eqCaps]
        · clear hI
          rintro ⟨j, ps, raw, g, es, clk, L, lo, cl, sl, sf, sr⟩ ⟨hj, hI⟩
          simp only at hj hI ⊢
          have hps := hI.psl
          have hrl := hI.rl
          (conv => whnf)
          refine condP_dec (fun hj2 => ?_) (fun hj2 => ?_)
          · have f0 : 0 + (j : Int).toNat = j := by omega
            have hbm := getD_mem G.arcs j aD (by omega)
            have hgb := hO.ga _ hbm
            have ryes := restAB_yes (F := F) (G := G) (p := ⟨pa, pb, pc⟩) (i := i) (j := j) (by omega)
            have rno := restAB_no (F := F) (G := G) (p := ⟨pa, pb, pc⟩) (i := i) (j := j) (by omega)
            rw [hax] at ryes rno
            generalize hb : G.arcs.getD j aD = b at hgb ryes rno
            have hb1 : G.arcs.getD (0 + (j : Int).toNat) EK.arc.dflt = b := by rw [f0]; exact hb
            have hq : PRng F G ⟨a.t, b.t, 0⟩ := PRng.of hfa.1 hgb.1
            simp only at ryes rno
            repeat' (first | exact rfl | ((conv => whnf); first | ((first | refine qA (fun h => ?_) fun h => ?_ | refine qN (fun h => ?_) fun h => ?_ | refine qB (fun h => ?_) fun h => ?_ | refine qC (fun h => ?_) fun h => ?_) <;> try exact absurd h (by omega)) | refine qM (fun h => ?_) fun h => ?_ | refine oM (by (first | omega | (simp only [lenS, InI, nmin, EK.sz]; omega) | (simp only [lenS, InI, nmin, EK.sz] at *; omega))) ?_ | refine oM ?_ ?_ | refine bM ?_ ?_ | refine draw_of Try.mixed Try.tyOk 60 (by kernel_rfl) ?_))
            all_goals simp only [hb1] at *
            all_goals first
              | (unfold InI; omega)
              | (rw [ryes (by omega)] at hI
                 have hl := hI.psl
                 have hl2 := hI.rl
                 simp only [List.length_cons] at hl hl2
                 (conv => whnf)
                 refine callF (arc_c F G ps raw g k es clk L lo cl sl sf sr n ⟨a.i, b.o, a.w + b.w, ⟨a.t, b.t, 0⟩⟩ hO.f hO.g hq hI.num (by omega) hI.lf hI.kl (by omega)) [0, 1, 2, 3, 4, 5, 14, 15, 16] Try.call113 rfl (by simp [eqLs, eqL, eqO, eqC, eqCs, rn, renOf, look_cons, look, EK.cast]) (by simp [appN, ptrs, eqVL, eqV, eqA, eqC, eqCs, eqAs, eqCaps, EK.sz, rn, renOf, look_cons, look, arcV, fV]) (by simp [appN, ptrs, SV.lt, SA.lt, SC.lt, arcV, fV, lenN]) ?_
                 rintro _ _ ⟨es', clk', L', lo', cl', sl', sf', sr', hm', rfl, hp', rfl⟩
                 replace hI := hI.next hm' hp'
                 generalize numP ps (Stp.p ⟨a.i, b.o, a.w + b.w, ⟨a.t, b.t, 0⟩⟩) = ps1 at hI hm' ⊢
                 generalize arcP ps raw n ⟨a.i, b.o, a.w + b.w, ⟨a.t, b.t, 0⟩⟩ = raw1 at hI ⊢
                 generalize grP F G ps g ⟨a.i, b.o, a.w + b.w, ⟨a.t, b.t, 0⟩⟩ = g1 at hI ⊢
                 repeat' (first | exact rfl | ((conv => whnf); first | ((first | refine qA (fun h => ?_) fun h => ?_ | refine qN (fun h => ?_) fun h => ?_ | refine qB (fun h => ?_) fun h => ?_ | refine qC (fun h => ?_) fun h => ?_) <;> try exact absurd h (by omega)) | refine qM (fun h => ?_) fun h => ?_ | refine oM (by (first | omega | (simp only [lenS, InI, nmin, EK.sz]; omega) | (simp only [lenS, InI, nmin, EK.sz] at *; omega))) ?_ | refine oM ?_ ?_ | refine bM ?_ ?_ | refine draw_of Try.mixed Try.tyOk 60 (by kernel_rfl) ?_))
                 (conv => whnf)
                 refine ⟨(j + 1, ps1, raw1, g1, es', clk', L', lo', cl', sl', sf', sr'), [(14, some 18), (15, some 19), (16, some 20)], ⟨by rfl, ?_, ?_⟩, ⟨by simp only; omega, hI⟩, by simp only; omega⟩
                 · simp [eqFr, eqHp, eqV, eqA, eqC, eqO, eqCs, eqAs, look_cons, look, rn, EK.cast, EK.sz, eqCaps]
                 · simp [eqFr, eqHp, eqV, eqA, eqC, eqO, eqCs, eqAs, look_cons, look, rn, EK.cast, EK.sz, eqCaps])
              | (rw [rno (by omega)] at hI
                 (conv => whnf)
                 refine ⟨(j + 1, ps, raw, g, es, clk, L, lo, cl, sl, sf, sr), [], ⟨by rfl, ?_, ?_⟩, ⟨by simp only; omega, hI⟩, by simp only; omega⟩
                 · simp [eqFr, eqHp, eqV, eqA, eqC, eqO, eqCs, eqAs, look_cons, look, rn, EK.cast, EK.sz, eqCaps]
                 · simp [eqFr, eqHp, eqV, eqA, eqC, eqO, eqCs, eqAs, look_cons, look, rn, EK.cast, EK.sz, eqCaps])
          · have e : j = G.arcs.length := by omega
            subst e
            rw [restAB_end] at hI
            repeat' (first | exact rfl | ((conv => whnf); first | ((first | refine qA (fun h => ?_) fun h => ?_ | refine qN (fun h => ?_) fun h => ?_ | refine qB (fun h => ?_) fun h => ?_ | refine qC (fun h => ?_) fun h => ?_) <;> try exact absurd h (by omega)) | refine qM (fun h => ?_) fun h => ?_ | refine oM (by (first | omega | (simp only [lenS, InI, nmin, EK.sz]; omega) | (simp only [lenS, InI, nmin, EK.sz] at *; omega))) ?_ | refine oM ?_ ?_ | refine bM ?_ ?_ | refine draw_of Try.mixed Try.tyOk 60 (by kernel_rfl) ?_))
            (conv => whnf)
            refine ⟨(i + 1, ps, raw, g, es, clk, L, lo, cl, sl, sf, sr), [(10, some 14), (11, some 15), (12, some 16)], ⟨by rfl, ?_, ?_⟩, ⟨by simp only; omega, hI⟩, by simp only; omega⟩
            · simp [eqFr, eqHp, eqV, eqA, eqC, eqO, eqCs, eqAs, look_cons, look, rn, EK.cast, EK.sz, eqCaps]
            · simp [eqFr, eqHp, eqV, eqA, eqC, eqO, eqCs, eqAs, look_cons, look, rn, EK.cast, EK.sz, eqCaps]

      · simp only [hax1] at *
        rw [rlab (by omega) (by omega)] at hI
        repeat' (first | exact rfl | ((conv => whnf); first | ((first | refine qA (fun h => ?_) fun h => ?_ | refine qN (fun h => ?_) fun h => ?_ | refine qB (fun h => ?_) fun h => ?_ | refine qC (fun h => ?_) fun h => ?_) <;> try exact absurd h (by omega)) | refine qM (fun h => ?_) fun h => ?_ | refine oM (by (first | omega | (simp only [lenS, InI, nmin, EK.sz]; omega) | (simp only [lenS, InI, nmin, EK.sz] at *; omega))) ?_ | refine oM ?_ ?_ | refine bM ?_ ?_ | refine draw_of Try.mixed Try.tyOk 60 (by kernel_rfl) ?_))
        (conv => whnf)
        refine loopI (fun z : Nat × List Trip × List Arc × Bool × List (Trip × Int × Nat) × Nat × List Trip × Nat × Nat × Nat × Nat × Nat => ⟨[(0, .c (.ptr 4 0)), (3, .c (.ptr 9 0)), (4, .i n), (6, .c (.ptr 13 0)), (21, .c (.sl 1 5 0 F.arcs.length F.capA)), (22, .i F.arcs.length), (23, .i i), (56, .c (.sl 3 5 0 G.arcs.length G.capA)), (57, .i G.arcs.length), (58, .i z.1)],
            hpG F G ++ hpCo F G k z.2.1 z.2.2.1 z.2.2.2.1 z.2.2.2.2.1 z.2.2.2.2.2.1 z.2.2.2.2.2.2.1 z.2.2.2.2.2.2.2.1 z.2.2.2.2.2.2.2.2.1 z.2.2.2.2.2.2.2.2.2.1 z.2.2.2.2.2.2.2.2.2.2.1 z.2.2.2.2.2.2.2.2.2.2.2 14 15 16 ++ [(9, .box 110 [.i pa, .i pb, .i pc]), (13, .box 47 [.i a.f, .i a.i, .i a.o, .i a.t, .i a.w])], 17⟩)
          (fun z => z.1 ≤ G.arcs.length ∧ CoInv F G n k x1 z.2.1 z.2.2.1 z.2.2.2.1 z.2.2.2.2.1 z.2.2.2.2.2.2.1 z.2.2.2.2.2.2.2.1 z.2.2.2.2.2.2.2.2.1 z.2.2.2.2.2.2.2.2.2.1 (restAB F G ⟨pa, pb, pc⟩ i z.1)) (fun z => G.arcs.length - z.1) (0, ps, raw, g, es, clk, L, lo, cl, sl, sf, sr) [(14, some 10), (15, some 11), (16, some 12)] ⟨by rfl, ?_, ?_⟩ ⟨Nat.zero_le _, hI⟩ ?_
        · simp [eqFr, eqHp, eqV, eqA, eqC, eqO, eqCs, eqAs, look_cons, look, rn, EK.cast, EK.sz, eqCaps]
        · simp [eqFr, eqHp, eqV, eqA, eqC, eqO, eqCs, eqAs, look_cons, look, rn, EK.cast, EK.sz, eqCaps]
        · clear hI
          rintro ⟨j, ps, raw, g, es, clk, L, lo, cl, sl, sf, sr⟩ ⟨hj, hI⟩
          simp only at hj hI ⊢
          have hps := hI.psl
          have hrl := hI.rl
          (conv => whnf)
          refine condP_dec (fun hj2 => ?_) (fun hj2 => ?_)
          · have f0 : 0 + (j : Int).toNat = j := by omega
            have hbm := getD_mem G.arcs j aD (by omega)
            have hgb := hO.ga _ hbm
            have ryes := restAB_yes (F := F) (G := G) (p := ⟨pa, pb, pc⟩) (i := i) (j := j) (by omega)
            have rno := restAB_no (F := F) (G := G) (p := ⟨pa, pb, pc⟩) (i := i) (j := j) (by omega)
            rw [hax] at ryes rno
            generalize hb : G.arcs.getD j aD = b at hgb ryes rno
            have hb1 : G.arcs.getD (0 + (j : Int).toNat) EK.arc.dflt = b := by rw [f0]; exact hb
            have hq : PRng F G ⟨a.t, b.t, 0⟩ := PRng.of hfa.1 hgb.1
            simp only at ryes rno
            repeat' (first | exact rfl | ((conv => whnf); first | ((first | refine qA (fun h => ?_) fun h => ?_ | refine qN (fun h => ?_) fun h => ?_ | refine qB (fun h => ?_) fun h => ?_ | refine qC (fun h => ?_) fun h => ?_) <;> try exact absurd h (by omega)) | refine qM (fun h => ?_) fun h => ?_ | refine oM (by (first | omega | (simp only [lenS, InI, nmin, EK.sz]; omega) | (simp only [lenS, InI, nmin, EK.sz] at *; omega))) ?_ | refine oM ?_ ?_ | refine bM ?_ ?_ | refine draw_of Try.mixed Try.tyOk 60 (by kernel_rfl) ?_))
            all_goals simp only [hb1] at *
            all_goals first
              | (unfold InI; omega)
              | (rw [ryes (by omega)] at hI
                 have hl := hI.psl
                 have hl2 := hI.rl
                 simp only [List.length_cons] at hl hl2
                 (conv => whnf)
                 refine callF (arc_c F G ps raw g k es clk L lo cl sl sf sr n ⟨a.i, b.o, a.w + b.w, ⟨a.t, b.t, 0⟩⟩ hO.f hO.g hq hI.num (by omega) hI.lf hI.kl (by omega)) [0, 1, 2, 3, 4, 5, 14, 15, 16] Try.call113 rfl (by simp [eqLs, eqL, eqO, eqC, eqCs, rn, renOf, look_cons, look, EK.cast]) (by simp [appN, ptrs, eqVL, eqV, eqA, eqC, eqCs, eqAs, eqCaps, EK.sz, rn, renOf, look_cons, look, arcV, fV]) (by simp [appN, ptrs, SV.lt, SA.lt, SC.lt, arcV, fV, lenN]) ?_
                 rintro _ _ ⟨es', clk', L', lo', cl', sl', sf', sr', hm', rfl, hp', rfl⟩
                 replace hI := hI.next hm' hp'
                 generalize numP ps (Stp.p ⟨a.i, b.o, a.w + b.w, ⟨a.t, b.t, 0⟩⟩) = ps1 at hI hm' ⊢
                 generalize arcP ps raw n ⟨a.i, b.o, a.w + b.w, ⟨a.t, b.t, 0⟩⟩ = raw1 at hI ⊢
                 generalize grP F G ps g ⟨a.i, b.o, a.w + b.w, ⟨a.t, b.t, 0⟩⟩ = g1 at hI ⊢
                 repeat' (first | exact rfl | ((conv => whnf); first | ((first | refine qA (fun h => ?_) fun h => ?_ | refine qN (fun h => ?_) fun h => ?_ | refine qB (fun h => ?_) fun h => ?_ | refine qC (fun h => ?_) fun h => ?_) <;> try exact absurd h (by omega)) | refine qM (fun h => ?_) fun h => ?_ | refine oM (by (first | omega | (simp only [lenS, InI, nmin, EK.sz]; omega) | (simp only [lenS, InI, nmin, EK.sz] at *; omega))) ?_ | refine oM ?_ ?_ | refine bM ?_ ?_ | refine draw_of Try.mixed Try.tyOk 60 (by kernel_rfl) ?_))
                 (conv => whnf)
                 refine ⟨(j + 1, ps1, raw1, g1, es', clk', L', lo', cl', sl', sf', sr'), [(14, some 18), (15, some 19), (16, some 20)], ⟨by rfl, ?_, ?_⟩, ⟨by simp only; omega, hI⟩, by simp only; omega⟩
                 · simp [eqFr, eqHp, eqV, eqA, eqC, eqO, eqCs, eqAs, look_cons, look, rn, EK.cast, EK.sz, eqCaps]
                 · simp [eqFr, eqHp, eqV, eqA, eqC, eqO, eqCs, eqAs, look_cons, look, rn, EK.cast, EK.sz, eqCaps])
              | (rw [rno (by omega)] at hI
                 (conv => whnf)
                 refine ⟨(j + 1, ps, raw, g, es, clk, L, lo, cl, sl, sf, sr), [], ⟨by rfl, ?_, ?_⟩, ⟨by simp only; omega, hI⟩, by simp only; omega⟩
                 · simp [eqFr, eqHp, eqV, eqA, eqC, eqO, eqCs, eqAs, look_cons, look, rn, EK.cast, EK.sz, eqCaps]
                 · simp [eqFr, eqHp, eqV, eqA, eqC, eqO, eqCs, eqAs, look_cons, look, rn, EK.cast, EK.sz, eqCaps])
          · have e : j = G.arcs.length := by omega
            subst e
            rw [restAB_end] at hI
            repeat' (first | exact rfl | ((conv => whnf); first | ((first | refine qA (fun h => ?_) fun h => ?_ | refine qN (fun h => ?_) fun h => ?_ | refine qB (fun h => ?_) fun h => ?_ | refine qC (fun h => ?_) fun h => ?_) <;> try exact absurd h (by omega)) | refine qM (fun h => ?_) fun h => ?_ | refine oM (by (first | omega | (simp only [lenS, InI, nmin, EK.sz]; omega) | (simp only [lenS, InI, nmin, EK.sz] at *; omega))) ?_ | refine oM ?_ ?_ | refine bM ?_ ?_ | refine draw_of Try.mixed Try.tyOk 60 (by kernel_rfl) ?_))
            (conv => whnf)
            refine ⟨(i + 1, ps, raw, g, es, clk, L, lo, cl, sl, sf, sr), [(10, some 14), (11, some 15), (12, some 16)], ⟨by rfl, ?_, ?_⟩, ⟨by simp only; omega, hI⟩, by simp only; omega⟩
            · simp [eqFr, eqHp, eqV, eqA, eqC, eqO, eqCs, eqAs, look_cons, look, rn, EK.cast, EK.sz, eqCaps]
            · simp [eqFr, eqHp, eqV, eqA, eqC, eqO, eqCs, eqAs, look_cons, look, rn, EK.cast, EK.sz, eqCaps]

      · simp only [hax1] at *
        rw [rlab (by omega) (by omega)] at hI
        repeat' (first | exact rfl | ((conv => whnf); first | ((first | refine qA (fun h => ?_) fun h => ?_ | refine qN (fun h => ?_) fun h => ?_ | refine qB (fun h => ?_) fun h => ?_ | refine qC (fun h => ?_) fun h => ?_) <;> try exact absurd h (by omega)) | refine qM (fun h => ?_) fun h => ?_ | refine oM (by (first | omega | (simp only [lenS, InI, nmin, EK.sz]; omega) | (simp only [lenS, InI, nmin, EK.sz] at *; omega))) ?_ | refine oM ?_ ?_ | refine bM ?_ ?_ | refine draw_of Try.mixed Try.tyOk 60 (by kernel_rfl) ?_))
        (conv => whnf)
        refine loopI (fun z : Nat × List Trip × List Arc × Bool × List (Trip × Int × Nat) × Nat × List Trip × Nat × Nat × Nat × Nat × Nat => ⟨[(0, .c (.ptr 4 0)), (3, .c (.ptr 9 0)), (4, .i n), (6, .c (.ptr 13 0)), (21, .c (.sl 1 5 0 F.arcs.length F.capA)), (22, .i F.arcs.length), (23, .i i), (56, .c (.sl 3 5 0 G.arcs.length G.capA)), (57, .i G.arcs.length), (58, .i z.1)],
            hpG F G ++ hpCo F G k z.2.1 z.2.2.1 z.2.2.2.1 z.2.2.2.2.1 z.2.2.2.2.2.1 z.2.2.2.2.2.2.1 z.2.2.2.2.2.2.2.1 z.2.2.2.2.2.2.2.2.1 z.2.2.2.2.2.2.2.2.2.1 z.2.2.2.2.2.2.2.2.2.2.1 z.2.2.2.2.2.2.2.2.2.2.2 14 15 16 ++ [(9, .box 110 [.i pa, .i pb, .i pc]), (13, .box 47 [.i a.f, .i a.i, .i a.o, .i a.t, .i a.w])], 17⟩)
          (fun z => z.1 ≤ G.arcs.length ∧ CoInv F G n k x1 z.2.1 z.2.2.1 z.2.2.2.1 z.2.2.2.2.1 z.2.2.2.2.2.2.1 z.2.2.2.2.2.2.2.1 z.2.2.2.2.2.2.2.2.1 z.2.2.2.2.2.2.2.2.2.1 (restAB F G ⟨pa, pb, pc⟩ i z.1)) (fun z => G.arcs.length - z.1) (0, ps, raw, g, es, clk, L, lo, cl, sl, sf, sr) [(14, some 10), (15, some 11), (16, some 12)] ⟨by rfl, ?_, ?_⟩ ⟨Nat.zero_le _, hI⟩ ?_
        · simp [eqFr, eqHp, eqV, eqA, eqC, eqO, eqCs, eqAs, look_cons, look, rn, EK.cast, EK.sz, eqCaps]
        · simp [eqFr, eqHp, eqV, eqA, eqC, eqO, eqCs, eqAs, look_cons, look, rn, EK.cast, EK.sz, eqCaps]
        · clear hI
          rintro ⟨j, ps, raw, g, es, clk, L, lo, cl, sl, sf, sr⟩ ⟨hj, hI⟩
          simp only at hj hI ⊢
          have hps := hI.psl
          have hrl := hI.rl
          (conv => whnf)
          refine condP_dec (fun hj2 => ?_) (fun hj2 => ?_)
          · have f0 : 0 + (j : Int).toNat = j := by omega
            have hbm := getD_mem G.arcs j aD (by omega)
            have hgb := hO.ga _ hbm
            have ryes := restAB_yes (F := F) (G := G) (p := ⟨pa, pb, pc⟩) (i := i) (j := j) (by omega)
            have rno := restAB_no (F := F) (G := G) (p := ⟨pa, pb, pc⟩) (i := i) (j := j) (by omega)
            rw [hax] at ryes rno
            generalize hb : G.arcs.getD j aD = b at hgb ryes rno
            have hb1 : G.arcs.getD (0 + (j : Int).toNat) EK.arc.dflt = b := by rw [f0]; exact hb
            have hq : PRng F G ⟨a.t, b.t, 0⟩ := PRng.of hfa.1 hgb.1
            simp only at ryes rno
            repeat' (first | exact rfl | ((conv => whnf); first | ((first | refine qA (fun h => ?_) fun h => ?_ | refine qN (fun h => ?_) fun h => ?_ | refine qB (fun h => ?_) fun h => ?_ | refine qC (fun h => ?_) fun h => ?_) <;> try exact absurd h (by omega)) | refine qM (fun h => ?_) fun h => ?_ | refine oM (by (first | omega | (simp only [lenS, InI, nmin, EK.sz]; omega) | (simp only [lenS, InI, nmin, EK.sz] at *; omega))) ?_ | refine oM ?_ ?_ | refine bM ?_ ?_ | refine draw_of Try.mixed Try.tyOk 60 (by kernel_rfl) ?_))
            all_goals simp only [hb1] at *
            all_goals first
              | (unfold InI; omega)
              | (rw [ryes (by omega)] at hI
                 have hl := hI.psl
                 have hl2 := hI.rl
                 simp only [List.length_cons] at hl hl2
                 (conv => whnf)
                 refine callF (arc_c F G ps raw g k es clk L lo cl sl sf sr n ⟨a.i, b.o, a.w + b.w, ⟨a.t, b.t, 0⟩⟩ hO.f hO.g hq hI.num (by omega) hI.lf hI.kl (by omega)) [0, 1, 2, 3, 4, 5, 14, 15, 16] Try.call113 rfl (by simp [eqLs, eqL, eqO, eqC, eqCs, rn, renOf, look_cons, look, EK.cast]) (by simp [appN, ptrs, eqVL, eqV, eqA, eqC, eqCs, eqAs, eqCaps, EK.sz, rn, renOf, look_cons, look, arcV, fV]) (by simp [appN, ptrs, SV.lt, SA.lt, SC.lt, arcV, fV, lenN]) ?_
                 rintro _ _ ⟨es', clk', L', lo', cl', sl', sf', sr', hm', rfl, hp', rfl⟩
                 replace hI := hI.next hm' hp'
                 generalize numP ps (Stp.p ⟨a.i, b.o, a.w + b.w, ⟨a.t, b.t, 0⟩⟩) = ps1 at hI hm' ⊢
                 generalize arcP ps raw n ⟨a.i, b.o, a.w + b.w, ⟨a.t, b.t, 0⟩⟩ = raw1 at hI ⊢
                 generalize grP F G ps g ⟨a.i, b.o, a.w + b.w, ⟨a.t, b.t, 0⟩⟩ = g1 at hI ⊢
                 repeat' (first | exact rfl | ((conv => whnf); first | ((first | refine qA (fun h => ?_) fun h => ?_ | refine qN (fun h => ?_) fun h => ?_ | refine qB (fun h => ?_) fun h => ?_ | refine qC (fun h => ?_) fun h => ?_) <;> try exact absurd h (by omega)) | refine qM (fun h => ?_) fun h => ?_ | refine oM (by (first | omega | (simp only [lenS, InI, nmin, EK.sz]; omega) | (simp only [lenS, InI, nmin, EK.sz] at *; omega))) ?_ | refine oM ?_ ?_ | refine bM ?_ ?_ | refine draw_of Try.mixed Try.tyOk 60 (by kernel_rfl) ?_))
                 (conv => whnf)
                 refine ⟨(j + 1, ps1, raw1, g1, es', clk', L', lo', cl', sl', sf', sr'), [(14, some 18), (15, some 19), (16, some 20)], ⟨by rfl, ?_, ?_⟩, ⟨by simp only; omega, hI⟩, by simp only; omega⟩
                 · simp [eqFr, eqHp, eqV, eqA, eqC, eqO, eqCs, eqAs, look_cons, look, rn, EK.cast, EK.sz, eqCaps]
                 · simp [eqFr, eqHp, eqV, eqA, eqC, eqO, eqCs, eqAs, look_cons, look, rn, EK.cast, EK.sz, eqCaps])
              | (rw [rno (by omega)] at hI
                 (conv => whnf)
                 refine ⟨(j + 1, ps, raw, g, es, clk, L, lo, cl, sl, sf, sr), [], ⟨by rfl, ?_, ?_⟩, ⟨by simp only; omega, hI⟩, by simp only; omega⟩
                 · simp [eqFr, eqHp, eqV, eqA, eqC, eqO, eqCs, eqAs, look_cons, look, rn, EK.cast, EK.sz, eqCaps]
                 · simp [eqFr, eqHp, eqV, eqA, eqC, eqO, eqCs, eqAs, look_cons, look, rn, EK.cast, EK.sz, eqCaps])
          · have e : j = G.arcs.length := by omega
            subst e
            rw [restAB_end] at hI
            repeat' (first | exact rfl | ((conv => whnf); first | ((first | refine qA (fun h => ?_) fun h => ?_ | refine qN (fun h => ?_) fun h => ?_ | refine qB (fun h => ?_) fun h => ?_ | refine qC (fun h => ?_) fun h => ?_) <;> try exact absurd h (by omega)) | refine qM (fun h => ?_) fun h => ?_ | refine oM (by (first | omega | (simp only [lenS, InI, nmin, EK.sz]; omega) | (simp only [lenS, InI, nmin, EK.sz] at *; omega))) ?_ | refine oM ?_ ?_ | refine bM ?_ ?_ | refine draw_of Try.mixed Try.tyOk 60 (by kernel_rfl) ?_))
            (conv => whnf)
            refine ⟨(i + 1, ps, raw, g, es, clk, L, lo, cl, sl, sf, sr), [(10, some 14), (11, some 15), (12, some 16)], ⟨by rfl, ?_, ?_⟩, ⟨by simp only; omega, hI⟩, by simp only; omega⟩
            · simp [eqFr, eqHp, eqV, eqA, eqC, eqO, eqCs, eqAs, look_cons, look, rn, EK.cast, EK.sz, eqCaps]
            · simp [eqFr, eqHp, eqV, eqA, eqC, eqO, eqCs, eqAs, look_cons, look, rn, EK.cast, EK.sz, eqCaps]

    · have e : i = F.arcs.length := by omega
      subst e
      rw [restA_end] at hI
      repeat' (first | exact rfl | ((conv => whnf); first | ((first | refine qA (fun h => ?_) fun h => ?_ | refine qN (fun h => ?_) fun h => ?_ | refine qB (fun h => ?_) fun h => ?_ | refine qC (fun h => ?_) fun h => ?_) <;> try exact absurd h (by omega)) | refine qM (fun h => ?_) fun h => ?_ | refine oM (by (first | omega | (simp only [lenS, InI, nmin, EK.sz]; omega) | (simp only [lenS, InI, nmin, EK.sz] at *; omega))) ?_ | refine oM ?_ ?_ | refine bM ?_ ?_ | refine draw_of Try.mixed Try.tyOk 60 (by kernel_rfl) ?_))
      (conv => whnf)
      refine loopI (fun z : Nat × List Trip × List Arc × Bool × List (Trip × Int × Nat) × Nat × List Trip × Nat × Nat × Nat × Nat × Nat => ⟨[(0, .c (.ptr 4 0)), (3, .c (.ptr 9 0)), (4, .i n), (102, .c (.sl 3 5 0 G.arcs.length G.capA)), (103, .i G.arcs.length), (104, .i z.1)],
          hpG F G ++ hpCo F G k z.2.1 z.2.2.1 z.2.2.2.1 z.2.2.2.2.1 z.2.2.2.2.2.1 z.2.2.2.2.2.2.1 z.2.2.2.2.2.2.2.1 z.2.2.2.2.2.2.2.2.1 z.2.2.2.2.2.2.2.2.2.1 z.2.2.2.2.2.2.2.2.2.2.1 z.2.2.2.2.2.2.2.2.2.2.2 10 11 12 ++ [(9, .box 110 [.i pa, .i pb, .i pc])], 13⟩)
        (fun z => z.1 ≤ G.arcs.length ∧ CoInv F G n k x1 z.2.1 z.2.2.1 z.2.2.2.1 z.2.2.2.2.1 z.2.2.2.2.2.2.1 z.2.2.2.2.2.2.2.1 z.2.2.2.2.2.2.2.2.1 z.2.2.2.2.2.2.2.2.2.1 (restB G ⟨pa, pb, pc⟩ z.1)) (fun z => G.arcs.length - z.1) (0, ps, raw, g, es, clk, L, lo, cl, sl, sf, sr) [] ⟨by rfl, ?_, ?_⟩ ⟨Nat.zero_le _, hI⟩ ?_
      · simp [eqFr, eqHp, eqV, eqA, eqC, eqO, eqCs, eqAs, look_cons, look, rn, EK.cast, EK.sz, eqCaps]
      · simp [eqFr, eqHp, eqV, eqA, eqC, eqO, eqCs, eqAs, look_cons, look, rn, EK.cast, EK.sz, eqCaps]
      · clear hI
        rintro ⟨j, ps, raw, g, es, clk, L, lo, cl, sl, sf, sr⟩ ⟨hj, hI⟩
        simp only at hj hI ⊢
        have hps := hI.psl
        have hrl := hI.rl
        (conv => whnf)
        refine condP_dec (fun hj2 => ?_) (fun hj2 => ?_)
        · have f0 : 0 + (j : Int).toNat = j := by omega
          have hbm := getD_mem G.arcs j aD (by omega)
          have hgb := hO.ga _ hbm
          have ryes := restB_yes (G := G) (p := ⟨pa, pb, pc⟩) (j := j) (by omega)
          have rno := restB_no (G := G) (p := ⟨pa, pb, pc⟩) (j := j) (by omega)
          generalize hb : G.arcs.getD j aD = b at hgb ryes rno
          have hb1 : G.arcs.getD (0 + (j : Int).toNat) EK.arc.dflt = b := by rw [f0]; exact hb
          have hq : PRng F G ⟨pa, b.t, 2⟩ := PRng.of ⟨hp.a0, hp.a1⟩ hgb.1
          simp only at ryes rno
          repeat' (first | exact rfl | ((conv => whnf); first | ((first | refine qA (fun h => ?_) fun h => ?_ | refine qN (fun h => ?_) fun h => ?_ | refine qB (fun h => ?_) fun h => ?_ | refine qC (fun h => ?_) fun h => ?_) <;> try exact absurd h (by omega)) | refine qM (fun h => ?_) fun h => ?_ | refine oM (by (first | omega | (simp only [lenS, InI, nmin, EK.sz]; omega) | (simp only [lenS, InI, nmin, EK.sz] at *; omega))) ?_ | refine oM ?_ ?_ | refine bM ?_ ?_ | refine draw_of Try.mixed Try.tyOk 60 (by kernel_rfl) ?_))
          all_goals simp only [hb1] at *
          all_goals first
            | (unfold InI; omega)
            | (rw [ryes (by omega)] at hI
               have hl := hI.psl
               have hl2 := hI.rl
               simp only [List.length_cons] at hl hl2
               (conv => whnf)
               refine callF (arc_c F G ps raw g k es clk L lo cl sl sf sr n ⟨0, b.o, b.w, ⟨pa, b.t, 2⟩⟩ hO.f hO.g hq hI.num (by omega) hI.lf hI.kl (by omega)) [0, 1, 2, 3, 4, 5, 10, 11, 12] Try.call113 rfl (by simp [eqLs, eqL, eqO, eqC, eqCs, rn, renOf, look_cons, look, EK.cast]) (by simp [appN, ptrs, eqVL, eqV, eqA, eqC, eqCs, eqAs, eqCaps, EK.sz, rn, renOf, look_cons, look, arcV, fV]) (by simp [appN, ptrs, SV.lt, SA.lt, SC.lt, arcV, fV, lenN]) ?_
               rintro _ _ ⟨es', clk', L', lo', cl', sl', sf', sr', hm', rfl, hp', rfl⟩
               replace hI := hI.next hm' hp'
               generalize numP ps (Stp.p ⟨0, b.o, b.w, ⟨pa, b.t, 2⟩⟩) = ps1 at hI hm' ⊢
               generalize arcP ps raw n ⟨0, b.o, b.w, ⟨pa, b.t, 2⟩⟩ = raw1 at hI ⊢
               generalize grP F G ps g ⟨0, b.o, b.w, ⟨pa, b.t, 2⟩⟩ = g1 at hI ⊢
               repeat' (first | exact rfl | ((conv => whnf); first | ((first | refine qA (fun h => ?_) fun h => ?_ | refine qN (fun h => ?_) fun h => ?_ | refine qB (fun h => ?_) fun h => ?_ | refine qC (fun h => ?_) fun h => ?_) <;> try exact absurd h (by omega)) | refine qM (fun h => ?_) fun h => ?_ | refine oM (by (first | omega | (simp only [lenS, InI, nmin, EK.sz]; omega) | (simp only [lenS, InI, nmin, EK.sz] at *; omega))) ?_ | refine oM ?_ ?_ | refine bM ?_ ?_ | refine draw_of Try.mixed Try.tyOk 60 (by kernel_rfl) ?_))
               (conv => whnf)
               refine ⟨(j + 1, ps1, raw1, g1, es', clk', L', lo', cl', sl', sf', sr'), [(10, some 14), (11, some 15), (12, some 16)], ⟨by rfl, ?_, ?_⟩, ⟨by simp only; omega, hI⟩, by simp only; omega⟩
               · simp [eqFr, eqHp, eqV, eqA, eqC, eqO, eqCs, eqAs, look_cons, look, rn, EK.cast, EK.sz, eqCaps]
               · simp [eqFr, eqHp, eqV, eqA, eqC, eqO, eqCs, eqAs, look_cons, look, rn, EK.cast, EK.sz, eqCaps])
            | (rw [rno (by omega)] at hI
               (conv => whnf)
               refine ⟨(j + 1, ps, raw, g, es, clk, L, lo, cl, sl, sf, sr), [], ⟨by rfl, ?_, ?_⟩, ⟨by simp only; omega, hI⟩, by simp only; omega⟩
               · simp [eqFr, eqHp, eqV, eqA, eqC, eqO, eqCs, eqAs, look_cons, look, rn, EK.cast, EK.sz, eqCaps]
               · simp [eqFr, eqHp, eqV, eqA, eqC, eqO, eqCs, eqAs, look_cons, look, rn, EK.cast, EK.sz, eqCaps])
        · have e : j = G.arcs.length := by omega
          subst e
          rw [restB_end] at hI
          repeat' (first | exact rfl | ((conv => whnf); first | ((first | refine qA (fun h => ?_) fun h => ?_ | refine qN (fun h => ?_) fun h => ?_ | refine qB (fun h => ?_) fun h => ?_ | refine qC (fun h => ?_) fun h => ?_) <;> try exact absurd h (by omega)) | refine qM (fun h => ?_) fun h => ?_ | refine oM (by (first | omega | (simp only [lenS, InI, nmin, EK.sz]; omega) | (simp only [lenS, InI, nmin, EK.sz] at *; omega))) ?_ | refine oM ?_ ?_ | refine bM ?_ ?_ | refine draw_of Try.mixed Try.tyOk 60 (by kernel_rfl) ?_))
          (conv => whnf)
          have hfin := hI.fin
          simp only [List.foldl_nil] at hfin
          subst hfin
          refine ⟨[(9, some 10), (10, some 11), (11, some 12)], hpCo F G k ps raw g es clk L lo cl sl sf sr 9 10 11, 12, .tup [], ⟨by rfl, trivial, ?_⟩, by simp [eqV, eqAs], es, clk, L, lo, cl, sl, sf, sr, hI.num, rfl, hI.lf, rfl⟩
          simp [eqFr, eqHp, eqV, eqA, eqC, eqO, eqCs, eqAs, look_cons, look, rn, EK.cast, EK.sz, eqCaps]
end Go.Fw
