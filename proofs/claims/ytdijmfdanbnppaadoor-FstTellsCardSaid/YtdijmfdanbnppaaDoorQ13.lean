/-
  The reference's PrintFst.
-/
import Derived.Test.YtdijmfdanbnppaaDoorQ12
import Derived.Test.YtdijmfdanbnppaaDoorQ11

set_option linter.unusedSimpArgs false
set_option linter.unusedVariables false

namespace Go.Fw
open Go Go.Proofs

theorem digits_i (n : Int) (h0 : 0 ≤ n) (h1 : n ≤ 9223372036854775807) : Ct Tryd.prog 32 [.i n] [] [] 0 (Is 0 (stV (Lib.itoa n))) := digits_c (n.toNat + 1) n h0 (by omega) h1

theorem lnF_final (i w : Int) : lnF tFinal [i, w] = tFinal ++ [32] ++ Lib.itoa i ++ [32] ++ Lib.itoa w ++ [10] := by
  simp [lnF, lnK, gapL, tFinal]
theorem lnF_arc (a b c d e : Int) : lnF [] [a, b, c, d, e] = Lib.itoa a ++ [32] ++ Lib.itoa b ++ [32] ++ Lib.itoa c ++ [32] ++ Lib.itoa d ++ [32] ++ Lib.itoa e ++ [10] := by
  simp [lnF, lnK, gapL]

set_option maxHeartbeats 16000000 in
set_option maxRecDepth 20000 in
theorem printFst_c (F : TF) (hok : fstE F = 0) : Ct Tryd.prog 14 [fV F] [] (hpF F) 2 (Is 2 (stV (prF F))) := by
  have hF := fstE_ok hok
  have hst := hF.st
  have hsa := hF.start
  have hfl := hF.finl
  have hfin := hF.fin
  have hal := hF.arcl
  have i1 := itoa_len21 (n := F.st) (by omega) (by omega)
  have i2 := itoa_len21 (n := F.start) (by omega) (by omega)
  have hh := hdL_len (st := F.st) (sa := F.start) (by omega) (by omega)
  refine ctW Tryd.tyOk 7 [] Tryd.func14 rfl (by simp) (by simp) (fr := [(0, fV F)]) rfl ?_
  repeat' (first | exact rfl | ((conv => whnf); first | (refine qX (fun h => ?_) fun h => ?_ <;> try exact absurd h (by omega)) | refine oN ?_ | refine oM ?_ ?_ | refine bM ?_ ?_ | refine dR ?_))
  (conv => whnf)
  refine cI (digits_i F.st (by omega) (by omega)) [] Tryd.call32 ?_
  repeat' (first | exact rfl | ((conv => whnf); first | (refine qX (fun h => ?_) fun h => ?_ <;> try exact absurd h (by omega)) | refine oN ?_ | refine oM ?_ ?_ | refine bM ?_ ?_ | refine dR ?_))
  (conv => whnf)
  refine cI (digits_i F.start (by omega) (by omega)) [] Tryd.call32 ?_
  repeat' (first | exact rfl | ((conv => whnf); first | (refine qX (fun h => ?_) fun h => ?_ <;> try exact absurd h (by omega)) | refine oN ?_ | refine oM ?_ ?_ | refine bM ?_ ?_ | refine dR ?_))
  (conv => whnf)
  refine loopI (fun k : Nat => ⟨[(1, .c (.ptr 2 0)), (3, stV (hdL F.st F.start ++ finsK F.fin k)), (4, .i k)], hpF F ++ [(2, .box 25 (fCells F))], 3⟩)
    (fun k => k ≤ F.fin.length) (fun k => F.fin.length - k) 0 [] ⟨by rfl, ?_, ?_⟩ (Nat.zero_le _) ?_
  · simp [finsK, hdL, tStates, tStart, bs_app]
  · simp [fCells]
  · intro k hk
    have hkl := finsK_len hfin (by omega) k hk
    generalize hhd : hdL F.st F.start = hd at *
    (conv => whnf)
    refine condP_dec (fun hk2 => ?_) (fun hk2 => ?_)
    · have hr := hfin _ (getD_mem F.fin k 0 (by omega))
      have hv : F.fin.getD (0 + (k : Int).toNat) EK.int.dflt = F.fin.getD k 0 := by rw [show 0 + (k : Int).toNat = k by omega]; rfl
      have hs : finsK F.fin (k + 1) = finsK F.fin k ++ (if F.fin.getD k 0 ≠ -1 then lnF tFinal [(k : Int), F.fin.getD k 0] else []) := rfl
      rw [lnF_final] at hs
      generalize hx : finsK F.fin k = x at *
      generalize hw : F.fin.getD (0 + (k : Int).toNat) EK.int.dflt = w at *
      rw [← hv] at hs hr
      have l1 := itoa_len21 (n := (k : Int)) (by omega) (by omega)
      have l3 : tFinal.length = 5 := rfl
      repeat' (first | exact rfl | ((conv => whnf); first | (refine qX (fun h => ?_) fun h => ?_ <;> try exact absurd h (by omega)) | refine oN ?_ | refine oM ?_ ?_ | refine bM ?_ ?_ | refine dR ?_))
      · rw [hw] at h
        have l2 := itoa_len21 (n := w) (by omega) (by omega)
        rw [if_pos (by omega)] at hs
        (conv => whnf)
        refine cI (digits_i k (by omega) (by omega)) [] Tryd.call32 ?_
        repeat' (first | exact rfl | ((conv => whnf); first | (refine qX (fun h => ?_) fun h => ?_ <;> try exact absurd h (by omega)) | refine oN ?_ | refine oM ?_ ?_ | refine bM ?_ ?_ | refine dR ?_))
        (conv => whnf)
        rw [hw]
        refine cI (digits_i w (by omega) (by omega)) [] Tryd.call32 ?_
        repeat' (first | exact rfl | ((conv => whnf); first | (refine qX (fun h => ?_) fun h => ?_ <;> try exact absurd h (by omega)) | refine oN ?_ | refine oM ?_ ?_ | refine bM ?_ ?_ | refine dR ?_))
        (conv => whnf)
        refine ⟨k + 1, [], ⟨by rfl, ?_, ?_⟩, by omega, by omega⟩
        · simp [hs, bs_app, tFinal]
        · simp [fCells]
      · rw [hw] at h
        rw [if_neg (by omega), List.append_nil] at hs
        (conv => whnf)
        refine ⟨k + 1, [], ⟨by rfl, ?_, ?_⟩, by omega, by omega⟩
        · simp [hs]
        · simp [fCells]
    · have e : k = F.fin.length := by omega
      subst e
      generalize hfx : finsK F.fin F.fin.length = fx at *
      repeat' (first | exact rfl | ((conv => whnf); first | (refine qX (fun h => ?_) fun h => ?_ <;> try exact absurd h (by omega)) | refine oN ?_ | refine oM ?_ ?_ | refine bM ?_ ?_ | refine dR ?_))
      (conv => whnf)
      refine loopI (fun k : Nat => ⟨[(1, .c (.ptr 2 0)), (3, stV (hd ++ fx ++ arcsK F.arcs k)), (5, .i k)], hpF F ++ [(2, .box 25 (fCells F))], 3⟩)
        (fun k => k ≤ F.arcs.length) (fun k => F.arcs.length - k) 0 [] ⟨by rfl, ?_, ?_⟩ (Nat.zero_le _) ?_
      · simp [arcsK]
      · simp [fCells]
      · intro k hk
        have harc : ∀ a ∈ F.arcs, ∀ n ∈ arcL a, 0 ≤ n ∧ n ≤ 9223372036854775807 := by
          intro a ha n hn
          obtain ⟨q1, q2, q3, q4, q5, q6, q7, q8⟩ := hF.arc a ha
          simp only [arcL, List.mem_cons, List.not_mem_nil, or_false] at hn
          rcases hn with rfl | rfl | rfl | rfl | rfl <;> omega
        have hal2 := arcsK_len harc k hk
        (conv => whnf)
        refine condP_dec (fun hk2 => ?_) (fun hk2 => ?_)
        · have hv : F.arcs.getD (0 + (k : Int).toNat) EK.arc.dflt = F.arcs.getD k aD := by rw [show 0 + (k : Int).toNat = k by omega]; rfl
          obtain ⟨q1, q2, q3, q4, q5, q6, q7, q8⟩ := hF.arc _ (getD_mem F.arcs k aD (by omega))
          have hs : arcsK F.arcs (k + 1) = arcsK F.arcs k ++ lnF [] (arcL (F.arcs.getD k aD)) := rfl
          rw [arcL, lnF_arc] at hs
          generalize hx : arcsK F.arcs k = x at *
          generalize hae : F.arcs.getD k aD = a at *
          have g1 := itoa_len21 (n := a.f) (by omega) (by omega)
          have g2 := itoa_len21 (n := a.i) (by omega) (by omega)
          have g3 := itoa_len21 (n := a.o) (by omega) (by omega)
          have g4 := itoa_len21 (n := a.t) (by omega) (by omega)
          have g5 := itoa_len21 (n := a.w) (by omega) (by omega)
          repeat' (first | exact rfl | ((conv => whnf); first | (refine qX (fun h => ?_) fun h => ?_ <;> try exact absurd h (by omega)) | refine oN ?_ | refine oM ?_ ?_ | refine bM ?_ ?_ | refine dR ?_))
          (conv => whnf)
          rw [hv]
          refine cI (digits_i a.f (by omega) (by omega)) [] Tryd.call32 ?_
          repeat' (first | exact rfl | ((conv => whnf); first | (refine qX (fun h => ?_) fun h => ?_ <;> try exact absurd h (by omega)) | refine oN ?_ | refine oM ?_ ?_ | refine bM ?_ ?_ | refine dR ?_))
          (conv => whnf)
          refine cI (digits_i a.i (by omega) (by omega)) [] Tryd.call32 ?_
          repeat' (first | exact rfl | ((conv => whnf); first | (refine qX (fun h => ?_) fun h => ?_ <;> try exact absurd h (by omega)) | refine oN ?_ | refine oM ?_ ?_ | refine bM ?_ ?_ | refine dR ?_))
          (conv => whnf)
          refine cI (digits_i a.o (by omega) (by omega)) [] Tryd.call32 ?_
          repeat' (first | exact rfl | ((conv => whnf); first | (refine qX (fun h => ?_) fun h => ?_ <;> try exact absurd h (by omega)) | refine oN ?_ | refine oM ?_ ?_ | refine bM ?_ ?_ | refine dR ?_))
          (conv => whnf)
          refine cI (digits_i a.t (by omega) (by omega)) [] Tryd.call32 ?_
          repeat' (first | exact rfl | ((conv => whnf); first | (refine qX (fun h => ?_) fun h => ?_ <;> try exact absurd h (by omega)) | refine oN ?_ | refine oM ?_ ?_ | refine bM ?_ ?_ | refine dR ?_))
          (conv => whnf)
          refine cI (digits_i a.w (by omega) (by omega)) [] Tryd.call32 ?_
          repeat' (first | exact rfl | ((conv => whnf); first | (refine qX (fun h => ?_) fun h => ?_ <;> try exact absurd h (by omega)) | refine oN ?_ | refine oM ?_ ?_ | refine bM ?_ ?_ | refine dR ?_))
          all_goals (conv => whnf)
          refine ⟨k + 1, [], ⟨by rfl, ?_, ?_⟩, by omega, by omega⟩
          · simp [hs, bs_app]
          · simp [fCells]
        · have e : k = F.arcs.length := by omega
          subst e
          have hpr : prF F = hd ++ fx ++ arcsK F.arcs F.arcs.length := by
            unfold prF
            rw [hhd, hfx]
          repeat' (first | exact rfl | ((conv => whnf); first | (refine qX (fun h => ?_) fun h => ?_ <;> try exact absurd h (by omega)) | refine oN ?_ | refine oM ?_ ?_ | refine bM ?_ ?_ | refine dR ?_))
          (conv => whnf)
          refine Back.is ?_
          simp [hpr]
end Go.Fw

/-
  The reference's ReadFst.
-/
namespace Go.Fw
open Go Go.Proofs

instance {a b : Int} : CB (!(a == b)) (a ≠ b) (a = b) := ⟨fun h => by simpa using h, fun h => by simpa using h⟩

def ReadPost (o : Option RV × Int × Int) (v : SV) (s : S) : Prop := ∃ R sp sq, R = o.1.getD zeroR ∧ v = .tup [.agg [.i R.st, .i R.sa, .sl 0 1 0 R.fin.length (R.fin.length + sp), .sl 1 5 0 R.arcs.length (R.arcs.length + sq)], .c (.i o.2.1), .c (.i o.2.2)] ∧
  s = ⟨[], [(0, .arr true 3 .int R.fin sp), (1, .arr true 35 .arc R.arcs sq)], 2⟩
/-- Read as far as line i. -/
structure LnOk (L : List (List UInt8)) (i : Nat) (R : RV) (res : Sum RV Nat) : Prop where
  le : i < L.length
  zero : i = 0 → R = ⟨0, 0, [], [], -1⟩
  fin : i ≠ 0 → (R.fin.length : Int) = R.st
  flen : R.fin.length ≤ 1000
  cnt : R.arcs.length ≤ i
  run : runL (i + 1) R (L.drop i) = res

theorem LnOk.drop {L : List (List UInt8)} {i : Nat} (hi : i < L.length) : L.drop i = L.getD i [] :: L.drop (i + 1) := by
  rw [List.drop_eq_getElem_cons hi, List.getD_eq_getElem?_getD, List.getElem?_eq_getElem hi]
  rfl
theorem LnOk.bad {L : List (List UInt8)} {i : Nat} {R : RV} {res : Sum RV Nat} (h : LnOk L i R res) (hn : i ≠ L.length - 1 ∨ i = 0 ∨ L.getD i [] ≠ []) (hb : i = L.length - 1 ∨ takeF (i + 1) R (spl 32 (L.getD i [])) = none) : res = .inr (i + 1) := by
  have hi := h.le
  rw [← h.run, LnOk.drop hi]
  by_cases he : i = L.length - 1
  · rw [List.drop_eq_nil_of_le (by omega)]
    unfold runL
    rw [if_neg]
    rintro ⟨h1, h2⟩
    rcases hn with hn | hn | hn
    · exact hn he
    · omega
    · exact hn h2
  · rw [LnOk.drop (i := i + 1) (by omega)]
    rcases hb with hb | hb
    · exact absurd hb he
    · unfold runL
      rw [hb]
theorem LnOk.next {L : List (List UInt8)} {i : Nat} {R R' : RV} {res : Sum RV Nat} (h : LnOk L i R res) (he : i ≠ L.length - 1) (ht : takeF (i + 1) R (spl 32 (L.getD i [])) = some R') : LnOk L (i + 1) R' res := by
  have hi := h.le
  have hr : runL (i + 1 + 1) R' (L.drop (i + 1)) = res := by
    rw [← h.run, LnOk.drop hi, LnOk.drop (i := i + 1) (by omega)]
    conv => rhs; unfold runL
    rw [ht]
  have h2 := h.cnt
  have h4 := h.flen
  generalize hl : spl 32 (L.getD i []) = l at ht
  refine ⟨by omega, fun c => by omega, fun _ => ?_, ?_, ?_, hr⟩
  all_goals
    unfold takeF at ht
    split at ht
    · unfold headF at ht
      split at ht
      · cases hn : numsO [l.getD 1 [], l.getD 3 []] with
        | none => rw [hn] at ht; cases ht
        | some ns =>
          rw [hn] at ht
          simp only [Option.bind_some] at ht
          split at ht
          · cases ht
            first
            | (simp only [List.length_replicate]; omega)
            | (simp only [List.length_nil]; omega)
          · cases ht
      · cases ht
    · rename_i hn1
      have hf := h.fin (by omega)
      split at ht
      · unfold finF at ht
        split at ht
        · cases hn : numsO (l.drop 1) with
          | none => rw [hn] at ht; cases ht
          | some ns =>
            rw [hn] at ht
            simp only [Option.bind_some] at ht
            split at ht
            · cases ht
              first
              | (simp only [List.length_set]; omega)
              | (simp only; omega)
            · cases ht
        · cases ht
      · unfold arcF at ht
        split at ht
        · cases hn : numsO l with
          | none => rw [hn] at ht; cases ht
          | some ns =>
            rw [hn] at ht
            cases ht
            first
            | (simp only [List.length_append, List.length_cons, List.length_nil]; omega)
            | (simp only; omega)
        · cases ht

end Go.Fw

/-
  What is printed is parsed as it was, and nothing else is: the plain law.
-/
namespace Go.Fw
open Go

/-- Pieces with a sign between. -/
def jn (c : UInt8) : List (List UInt8) → List UInt8
  | [] => []
  | [x] => x
  | x :: y :: r => x ++ c :: jn c (y :: r)
theorem jn_cons (c : UInt8) (x : List UInt8) {l : List (List UInt8)} (h : l ≠ []) : jn c (x :: l) = x ++ c :: jn c l := by
  cases l with
  | nil => exact absurd rfl h
  | cons y r => rfl
theorem jn_snoc (c : UInt8) (x : List UInt8) : ∀ l : List (List UInt8), l ≠ [] → jn c (l ++ [x]) = jn c l ++ [c] ++ x
  | [], h => absurd rfl h
  | [y], _ => by simp [jn]
  | y :: z :: r, _ => by
    rw [List.cons_append, jn_cons c y (by simp), jn_snoc c x (z :: r) (by simp), jn_cons c y (by simp)]
    simp
theorem spl_jn (c : UInt8) : ∀ l : List (List UInt8), l ≠ [] → (∀ x ∈ l, ∀ y ∈ x, y ≠ c) → spl c (jn c l) = l
  | [], h, _ => absurd rfl h
  | [x], _, h => spl_one c x (h x (by simp))
  | x :: y :: r, _, h => by
    rw [jn_cons c x (by simp), spl_pre c x _ (h x (by simp)), spl_jn c (y :: r) (by simp) (fun z hz => h z (by simp [hz]))]

/-- Lines, each with its end. -/
def uls (l : List (List UInt8)) : List UInt8 := l.flatMap (· ++ [10])
theorem uls_app (a b : List (List UInt8)) : uls (a ++ b) = uls a ++ uls b := by unfold uls; rw [List.flatMap_append]
theorem uls_one (a : List UInt8) : uls [a] = a ++ [10] := by simp [uls]
theorem jn_uls : ∀ l : List (List UInt8), jn 10 (l ++ [[]]) = uls l
  | [] => rfl
  | x :: l => by
    rw [List.cons_append, jn_cons 10 x (by simp), jn_uls l]
    simp [uls]
theorem spl_uls (l : List (List UInt8)) (h : ∀ x ∈ l, ∀ y ∈ x, y ≠ 10) : spl 10 (uls l) = l ++ [[]] := by
  rw [← jn_uls]
  refine spl_jn 10 _ (by simp) (fun x hx => ?_)
  rcases List.mem_append.1 hx with hx | hx
  · exact h x hx
  · simp only [List.mem_cons, List.not_mem_nil, or_false] at hx
    subst hx
    simp
/-- A line's words. -/
def lw (word : List UInt8) (ns : List Int) : List (List UInt8) := (if word = [] then [] else [word]) ++ ns.map Lib.itoa
theorem lnK_jn (word : List UInt8) (ns : List Int) : ∀ k : Nat, k ≤ ns.length → lnK word ns k = jn 32 (lw word (ns.take k))
  | 0, _ => by
    unfold lw lnK
    split
    · rename_i h; rw [h]; rfl
    · rfl
  | k + 1, hk => by
    have ih := lnK_jn word ns k (by omega)
    have e : lw word (ns.take (k + 1)) = lw word (ns.take k) ++ [Lib.itoa (ns.getD k 0)] := by
      unfold lw
      rw [List.take_add_one, List.map_append, ← List.append_assoc]
      congr 1
      rw [List.getElem?_eq_getElem (by omega), List.getD_eq_getElem?_getD, List.getElem?_eq_getElem (by omega)]
      rfl
    rw [e]
    show lnK word ns k ++ gapL word k ++ _ = _
    rw [ih]
    unfold gapL
    split
    · rename_i h
      rw [jn_snoc]
      unfold lw
      intro hc
      obtain ⟨h1, h2⟩ := List.append_eq_nil_iff.1 hc
      rcases h with h | h
      · have := congrArg List.length h2
        simp only [List.length_map, List.length_take, List.length_nil] at this
        omega
      · rw [if_neg h] at h1; cases h1
    · rename_i h
      have hk0 : k = 0 := by omega
      have hw : word = [] := Classical.byContradiction fun c => h (.inr c)
      subst hk0 hw
      simp [lw, jn]
theorem lnF_jn (word : List UInt8) (ns : List Int) : lnF word ns = jn 32 (lw word ns) ++ [10] := by
  unfold lnF
  rw [lnK_jn word ns _ (Nat.le_refl _), List.take_length]

theorem itoa_dig {n : Int} (h : 0 ≤ n) : ∀ c ∈ Lib.itoa n, Dig c := by
  obtain ⟨m, rfl⟩ : ∃ m : Nat, n = m := ⟨n.toNat, by omega⟩
  rw [Lib.itoa_nonneg]
  exact (dec_dig (m + 1) m (by omega)).1
theorem itoa_no {n : Int} (h : 0 ≤ n) (c : UInt8) (hc : c.toNat < 48) : ∀ y ∈ Lib.itoa n, y ≠ c := by
  intro y hy e
  have := itoa_dig h y hy
  unfold Dig at this
  rw [e] at this
  omega
theorem dec_len : ∀ (k u : Nat), u < 10 ^ (k + 1) → (Lib.decDigits u).length ≤ k + 1
  | 0, u, h => by rw [Lib.decDigits_one (by omega)]; simp
  | k + 1, u, h => by
    by_cases h10 : u < 10
    · rw [Lib.decDigits_one h10]; simp
    · have := dec_len k (u / 10) (by rw [Nat.pow_succ] at h; omega)
      rw [Lib.decDigits, dif_neg h10, List.length_append]
      simp only [List.length_cons, List.length_nil]
      omega
theorem numO_itoa {n : Int} (h0 : 0 ≤ n) (h1 : n < 10000000000) : numO (Lib.itoa n) = some n := by
  rw [← undO_eq]
  obtain ⟨m, rfl⟩ : ∃ m : Nat, n = m := ⟨n.toNat, by omega⟩
  obtain ⟨d1, d2, d3⟩ := dec_dig (m + 1) m (by omega)
  have d4 := dec_len 9 m (by omega)
  unfold undO
  rw [Lib.itoa_nonneg, if_pos ⟨d3, by omega, d1, by rw [d2, Lib.itoa_nonneg]⟩, d2]
theorem numsO_itoa : ∀ {ns : List Int}, (∀ n ∈ ns, 0 ≤ n ∧ n < 10000000000) → numsO (ns.map Lib.itoa) = some ns
  | [], _ => rfl
  | n :: ns, h => by
    have h1 := h n (by simp)
    rw [List.map_cons, numsO_cons, numO_itoa h1.1 h1.2, numsO_itoa (fun m hm => h m (by simp [hm]))]
/-- The lines of what is printed. -/
def finL : Nat → List Int → List (List UInt8)
  | _, [] => []
  | k, w :: ws => (if w ≠ -1 then [jn 32 (lw tFinal [(k : Int), w])] else []) ++ finL (k + 1) ws
def arcLn (a : Arc) : List UInt8 := jn 32 (lw [] (arcL a))
def headLn (st sa : Int) : List UInt8 := jn 32 [wStates, Lib.itoa st, wStart, Lib.itoa sa]
theorem finL_snoc (w : Int) : ∀ (k : Nat) (l : List Int), finL k (l ++ [w]) = finL k l ++ (if w ≠ -1 then [jn 32 (lw tFinal [((k + l.length : Nat) : Int), w])] else [])
  | k, [] => by simp [finL]
  | k, x :: l => by
    rw [List.cons_append]
    unfold finL
    rw [finL_snoc w (k + 1) l, List.append_assoc, List.length_cons, show k + 1 + l.length = k + (l.length + 1) by omega]
theorem finsK_uls (fin : List Int) : ∀ k : Nat, k ≤ fin.length → finsK fin k = uls (finL 0 (fin.take k))
  | 0, _ => by simp [finsK, finL, uls]
  | k + 1, hk => by
    have ih := finsK_uls fin k (by omega)
    have e : fin.take (k + 1) = fin.take k ++ [fin.getD k 0] := by
      rw [List.take_add_one, List.getElem?_eq_getElem (by omega), List.getD_eq_getElem?_getD, List.getElem?_eq_getElem (by omega)]
      rfl
    rw [e, finL_snoc, uls_app, ← ih]
    show finsK fin k ++ (if fin.getD k 0 ≠ -1 then lnF tFinal [(k : Int), fin.getD k 0] else []) = _
    rw [List.length_take, show min k fin.length = k by omega, Nat.zero_add]
    split
    · rw [uls_one, lnF_jn]
    · rfl
theorem arcsK_uls (arcs : List Arc) : ∀ k : Nat, k ≤ arcs.length → arcsK arcs k = uls ((arcs.take k).map arcLn)
  | 0, _ => by simp [arcsK, uls]
  | k + 1, hk => by
    have ih := arcsK_uls arcs k (by omega)
    have e : arcs.take (k + 1) = arcs.take k ++ [arcs.getD k aD] := by
      rw [List.take_add_one, List.getElem?_eq_getElem (by omega), List.getD_eq_getElem?_getD, List.getElem?_eq_getElem (by omega)]
      rfl
    rw [e, List.map_append, uls_app, ← ih]
    show arcsK arcs k ++ lnF [] (arcL (arcs.getD k aD)) = _
    rw [lnF_jn]
    simp [uls, arcLn]
def prL (st sa : Int) (fin : List Int) (arcs : List Arc) : List (List UInt8) := headLn st sa :: (finL 0 fin ++ arcs.map arcLn)
theorem prF_uls (F : TF) : prF F = uls (prL F.st F.start F.fin F.arcs) := by
  unfold prF prL
  rw [finsK_uls _ _ (Nat.le_refl _), arcsK_uls _ _ (Nat.le_refl _), List.take_length, List.take_length]
  have : ∀ (a : List UInt8) (l : List (List UInt8)), uls (a :: l) = a ++ [10] ++ uls l := fun a l => by simp [uls]
  rw [this, uls_app, ← List.append_assoc]
  congr 2
  simp [hdL, headLn, jn, tStates, tStart, wStates, wStart]
end Go.Fw

/-
  What is printed is parsed as it was, and nothing else is: the plain law, its two ways.
-/
namespace Go.Fw
open Go

theorem jn_no {c : UInt8} : ∀ {l : List (List UInt8)} {d : UInt8}, d ≠ c → (∀ x ∈ l, ∀ y ∈ x, y ≠ d) → ∀ y ∈ jn c l, y ≠ d
  | [], _, _, _ => by simp [jn]
  | [x], _, _, h => h x (by simp)
  | x :: z :: r, d, hd, h => by
    intro y hy
    rw [jn_cons c x (by simp)] at hy
    rcases List.mem_append.1 hy with hy | hy
    · exact h x (by simp) y hy
    · rcases List.mem_cons.1 hy with rfl | hy
      · exact fun e => hd e.symm
      · exact jn_no (l := z :: r) hd (fun w hw => h w (by simp [hw])) y hy
theorem lw_no {word : List UInt8} {ns : List Int} {d : UInt8} (hd : d.toNat < 48) (hw : ∀ y ∈ word, y ≠ d) (hn : ∀ n ∈ ns, 0 ≤ n) : ∀ x ∈ lw word ns, ∀ y ∈ x, y ≠ d := by
  intro x hx
  unfold lw at hx
  rcases List.mem_append.1 hx with hx | hx
  · split at hx
    · simp at hx
    · simp only [List.mem_cons, List.not_mem_nil, or_false] at hx
      rw [hx]; exact hw
  · obtain ⟨n, h1, rfl⟩ := List.mem_map.1 hx
    exact itoa_no (hn n h1) d hd
theorem spl_lw {word : List UInt8} {ns : List Int} (hw : ∀ y ∈ word, y ≠ 32) (hn : ∀ n ∈ ns, 0 ≤ n) (hne : ns ≠ []) : spl 32 (jn 32 (lw word ns)) = lw word ns := by
  refine spl_jn 32 _ ?_ (lw_no (by decide) hw hn)
  unfold lw
  intro h
  have := (List.append_eq_nil_iff.1 h).2
  exact hne (List.map_eq_nil_iff.1 this)

theorem tFinal_no {d : UInt8} (h : d.toNat < 48) : ∀ y ∈ tFinal, y ≠ d := by
  intro y hy e
  subst e
  simp only [tFinal, List.mem_cons, List.not_mem_nil, or_false] at hy
  rcases hy with rfl | rfl | rfl | rfl | rfl <;> simp at h
theorem itoa_ne_final {n : Int} (h : 0 ≤ n) : Lib.itoa n ≠ tFinal := by
  intro e
  have := itoa_dig h 102 (by rw [e]; simp [tFinal])
  unfold Dig at this
  simp at this

/-- What can be printed. -/
structure Pr (st sa : Int) (fin : List Int) (arcs : List Arc) : Prop where
  hst : 1 ≤ st ∧ st ≤ 200
  hsa : 0 ≤ sa ∧ sa < 10000000000
  hlen : (fin.length : Int) = st
  hfin : ∀ w ∈ fin, -1 ≤ w ∧ w < 10000000000
  harc : ∀ a ∈ arcs, ∀ n ∈ arcL a, 0 ≤ n ∧ n < 10000000000

theorem fin_no {d : UInt8} (h1 : d.toNat < 48) (h2 : d ≠ 32) : ∀ (k : Nat) (l : List Int), (∀ w ∈ l, -1 ≤ w) → ∀ x ∈ finL k l, ∀ y ∈ x, y ≠ d
  | _, [], _ => by simp [finL]
  | k, w :: l, h => by
    intro x hx
    unfold finL at hx
    rcases List.mem_append.1 hx with hx | hx
    · split at hx
      · rename_i hw
        simp only [List.mem_cons, List.not_mem_nil, or_false] at hx
        subst hx
        have := h w (by simp)
        refine jn_no h2 (lw_no h1 (tFinal_no h1) ?_)
        intro n hn
        simp only [List.mem_cons, List.not_mem_nil, or_false] at hn
        rcases hn with rfl | rfl <;> omega
      · simp at hx
    · exact fin_no h1 h2 (k + 1) l (fun v hv => h v (by simp [hv])) x hx
theorem headLn_no {st sa : Int} (h1 : 0 ≤ st) (h2 : 0 ≤ sa) {d : UInt8} (hd : d.toNat < 48) : ∀ x ∈ [wStates, Lib.itoa st, wStart, Lib.itoa sa], ∀ y ∈ x, y ≠ d := by
  intro x hx
  simp only [List.mem_cons, List.not_mem_nil, or_false] at hx
  rcases hx with rfl | rfl | rfl | rfl
  · intro y hy e
    subst e
    simp only [wStates, List.mem_cons, List.not_mem_nil, or_false] at hy
    rcases hy with rfl | rfl | rfl | rfl | rfl | rfl <;> simp at hd
  · exact itoa_no h1 d hd
  · intro y hy e
    subst e
    simp only [wStart, List.mem_cons, List.not_mem_nil, or_false] at hy
    rcases hy with rfl | rfl | rfl | rfl | rfl <;> simp at hd
  · exact itoa_no h2 d hd
theorem prL_no {st sa : Int} {fin : List Int} {arcs : List Arc} (h : Pr st sa fin arcs) : ∀ x ∈ prL st sa fin arcs, ∀ y ∈ x, y ≠ 10 := by
  have h1 := h.hst
  have h2 := h.hsa
  intro x hx
  unfold prL at hx
  rcases List.mem_cons.1 hx with rfl | hx
  · exact jn_no (by decide) (headLn_no (by omega) (by omega) (by decide))
  rcases List.mem_append.1 hx with hx | hx
  · exact fin_no (by decide) (by decide) 0 fin (fun w hw => (h.hfin w hw).1) x hx
  · obtain ⟨a, ha, rfl⟩ := List.mem_map.1 hx
    exact jn_no (by decide) (lw_no (by decide) (by simp) (fun n hn => (h.harc a ha n hn).1))

theorem runL_step {n : Nat} {R R' : RV} {x : List UInt8} {t : List (List UInt8)} (ht : t ≠ []) (h : takeF n R (spl 32 x) = some R') : runL n R (x :: t) = runL (n + 1) R' t := by
  cases t with
  | nil => exact absurd rfl ht
  | cons y r => conv => lhs; unfold runL
                rw [h]

theorem head_back {st sa : Int} (h1 : 1 ≤ st ∧ st ≤ 200) (h2 : 0 ≤ sa ∧ sa < 10000000000) : headF (spl 32 (headLn st sa)) = some ⟨st, sa, List.replicate st.toNat (-1), [], -1⟩ := by
  unfold headLn
  rw [spl_jn 32 _ (by simp) (headLn_no (by omega) (by omega) (by decide))]
  have hn : numsO [Lib.itoa st, Lib.itoa sa] = some [st, sa] := numsO_itoa (ns := [st, sa]) (by
    intro n hn
    simp only [List.mem_cons, List.not_mem_nil, or_false] at hn
    rcases hn with rfl | rfl <;> omega)
  unfold headF
  rw [if_pos ⟨rfl, rfl, rfl⟩]
  show (numsO [Lib.itoa st, Lib.itoa sa]).bind _ = _
  rw [hn]
  exact if_pos h1

theorem fin_run : ∀ (ws : List Int) (pre : List Int) (n : Nat) (st sa last : Int) (t : List (List UInt8)), 2 ≤ n → t ≠ [] → last < pre.length → st = ((pre.length + ws.length : Nat) : Int) → (∀ w ∈ ws, -1 ≤ w ∧ w < 10000000000) → pre.length + ws.length ≤ 200 →
    ∃ n' last', 2 ≤ n' ∧ runL n ⟨st, sa, pre ++ List.replicate ws.length (-1), [], last⟩ (finL pre.length ws ++ t) = runL n' ⟨st, sa, pre ++ ws, [], last'⟩ t
  | [], pre, n, st, sa, last, t, hn, ht, hl, hs, hw, hc => ⟨n, last, hn, by simp [finL]⟩
  | w :: ws, pre, n, st, sa, last, t, hn, ht, hl, hs, hw, hc => by
    have h1 := hw w (by simp)
    have hw' : ∀ v ∈ ws, -1 ≤ v ∧ v < 10000000000 := fun v hv => hw v (by simp [hv])
    simp only [List.length_cons] at hs hc
    have hpl : (pre ++ [w]).length = pre.length + 1 := by simp
    by_cases hw1 : w = -1
    · subst hw1
      obtain ⟨n', l', g1, g2⟩ := fin_run ws (pre ++ [-1]) n st sa last t hn ht (by rw [hpl]; omega) (by rw [hpl]; omega) hw' (by rw [hpl]; omega)
      refine ⟨n', l', g1, ?_⟩
      rw [hpl] at g2
      unfold finL
      rw [if_neg (by simp), List.nil_append, List.length_cons, List.replicate_succ]
      simp only [List.append_assoc, List.singleton_append] at g2
      exact g2
    · obtain ⟨n', l', g1, g2⟩ := fin_run ws (pre ++ [w]) (n + 1) st sa pre.length t (by omega) ht (by rw [hpl]; omega) (by rw [hpl]; omega) hw' (by rw [hpl]; omega)
      refine ⟨n', l', g1, ?_⟩
      rw [hpl] at g2
      simp only [List.append_assoc, List.singleton_append] at g2
      rw [← g2]
      show runL n _ ((if w ≠ -1 then [jn 32 (lw tFinal [((pre.length : Nat) : Int), w])] else []) ++ finL (pre.length + 1) ws ++ t) = _
      rw [if_pos hw1, List.cons_append, List.nil_append, List.cons_append]
      refine runL_step ?_ ?_
      · simp [ht]
      have hns : ∀ m ∈ [((pre.length : Nat) : Int), w], 0 ≤ m ∧ m < 10000000000 := by
        intro m hm
        simp only [List.mem_cons, List.not_mem_nil, or_false] at hm
        rcases hm with rfl | rfl <;> omega
      rw [spl_lw (tFinal_no (by decide)) (fun m hm => (hns m hm).1) (by simp)]
      have hlw : lw tFinal [((pre.length : Nat) : Int), w] = [tFinal, Lib.itoa (pre.length : Nat), Lib.itoa w] := by simp [lw, tFinal]
      rw [hlw]
      unfold takeF
      rw [if_neg (by omega)]
      refine (if_pos rfl).trans ?_
      unfold finF
      refine (if_pos rfl).trans ?_
      show (numsO [Lib.itoa (pre.length : Nat), Lib.itoa w]).bind _ = _
      rw [show numsO [Lib.itoa (pre.length : Nat), Lib.itoa w] = some [((pre.length : Nat) : Int), w] from numsO_itoa hns]
      refine (if_pos ⟨rfl, hl, ?_⟩).trans ?_
      · simp only [nth, List.getD_cons_zero, List.getD_cons_succ, Int.toNat_natCast]
        congr 2
        rw [List.length_cons, List.replicate_succ, List.set_append_right _ _ (Nat.le_refl _)]
        simp
      · show ((pre.length : Nat) : Int) < st
        omega

theorem arc_run : ∀ (al : List Arc) (R : RV) (n : Nat) (t : List (List UInt8)), 2 ≤ n → t ≠ [] → (∀ a ∈ al, ∀ m ∈ arcL a, 0 ≤ m ∧ m < 10000000000) →
    ∃ n', 2 ≤ n' ∧ runL n R (al.map arcLn ++ t) = runL n' { R with arcs := R.arcs ++ al } t
  | [], R, n, t, hn, ht, _ => ⟨n, hn, by simp⟩
  | a :: al, R, n, t, hn, ht, h => by
    have ha := h a (by simp)
    obtain ⟨n', g1, g2⟩ := arc_run al { R with arcs := R.arcs ++ [a] } (n + 1) t (by omega) ht (fun b hb => h b (by simp [hb]))
    refine ⟨n', g1, ?_⟩
    simp only [List.append_assoc, List.singleton_append] at g2
    rw [← g2, List.map_cons, List.cons_append]
    refine runL_step ?_ ?_
    · simp [ht]
    unfold arcLn
    rw [spl_lw (by simp) (fun m hm => (ha m hm).1) (by simp [arcL])]
    have hlw : lw [] (arcL a) = [Lib.itoa a.f, Lib.itoa a.i, Lib.itoa a.o, Lib.itoa a.t, Lib.itoa a.w] := by simp [lw, arcL]
    rw [hlw]
    unfold takeF
    rw [if_neg (by omega)]
    refine (if_neg (itoa_ne_final (ha a.f (by simp [arcL])).1)).trans ?_
    unfold arcF
    refine (if_pos rfl).trans ?_
    rw [show numsO [Lib.itoa a.f, Lib.itoa a.i, Lib.itoa a.o, Lib.itoa a.t, Lib.itoa a.w] = some (arcL a) from numsO_itoa ha]
    rfl

/-- WHAT IS PRINTED IS PARSED AS IT WAS. -/
theorem parse_pr {F : TF} (hok : fstE F = 0) (hl : (prF F).length ≤ 100000) : ∃ last, parseF (prF F) = (some ⟨F.st, F.start, F.fin, F.arcs, last⟩, 0, 0) := by
  have hF := fstE_ok hok
  have h1 := hF.st
  have h2 := hF.start
  have h3 := hF.finl
  have hP : Pr F.st F.start F.fin F.arcs := by
    refine ⟨by omega, by omega, by omega, fun w hw => ?_, fun a ha n hn => ?_⟩
    · have := hF.fin w hw; omega
    · obtain ⟨q1, q2, q3, q4, q5, q6, q7, q8⟩ := hF.arc a ha
      simp only [arcL, List.mem_cons, List.not_mem_nil, or_false] at hn
      rcases hn with rfl | rfl | rfl | rfl | rfl <;> omega
  have hst : F.st.toNat = F.fin.length := by omega
  obtain ⟨n1, l1, g1, g2⟩ := fin_run F.fin [] 2 F.st F.start (-1) (F.arcs.map arcLn ++ [[]]) (by omega) (by simp) (by simp) (by simp; omega) hP.hfin (by simp; omega)
  obtain ⟨n2, g3, g4⟩ := arc_run F.arcs ⟨F.st, F.start, F.fin, [], l1⟩ n1 [[]] g1 (by simp) hP.harc
  have hr : runL 1 zeroR (spl 10 (prF F)) = .inl ⟨F.st, F.start, F.fin, F.arcs, l1⟩ := by
    rw [prF_uls, spl_uls _ (prL_no hP)]
    unfold prL
    rw [List.cons_append, runL_step (by simp) (show takeF 1 zeroR _ = _ by unfold takeF; rw [if_pos rfl]; exact head_back hP.hst hP.hsa)]
    simp only [List.nil_append, List.length_nil] at g2 g4
    rw [hst, List.append_assoc, g2, g4]
    unfold runL
    rw [if_pos ⟨by omega, rfl⟩]
  refine ⟨l1, ?_⟩
  unfold parseF
  rw [if_neg (by omega), hr]
  exact if_pos (show fstE (tfR ⟨F.st, F.start, F.fin, F.arcs, l1⟩) = 0 from hok)

/-- What was read so far, printed, is the lines so far. -/
structure RdS (R : RV) : Prop where
  len : (R.fin.length : Int) = R.st
  last : ∀ i : Nat, R.last < i → i < R.fin.length → R.fin.getD i (-1) = -1

end Go.Fw

/-
  fstBegun: what must be in any case.
-/
namespace Go.Fw
open Go Go.Proofs

abbrev smT : TF := ⟨2, 0, [-1, 1], [⟨0, 1, 2, 1, 5⟩], 2, 1⟩
def smS : List UInt8 := [115, 116, 97, 116, 101, 115, 32, 50, 32, 115, 116, 97, 114, 116, 32, 48, 10, 102, 105, 110, 97, 108, 32, 49, 32, 49, 10, 48, 32, 49, 32, 50, 32, 49, 32, 53, 10]
theorem itoa_one (n : Nat) (h : n < 10) : Lib.itoa (n : Int) = [UInt8.ofNat (48 + n)] := by rw [Lib.itoa_nonneg, Lib.decDigits_one h]
theorem sm_pr : prF smT = smS := by
  have h0 := itoa_one 0 (by omega)
  have h1 := itoa_one 1 (by omega)
  have h2 := itoa_one 2 (by omega)
  have h5 := itoa_one 5 (by omega)
  simp only [prF, hdL, finsK, arcsK, lnF_final, lnF_arc, arcL, List.length_cons, List.length_nil]
  simp [tStates, tStart, tFinal, smS, lnF, lnK, gapL, arcL]
  simp only [show ((2 : Nat) : Int) = 2 from rfl, show ((0 : Nat) : Int) = 0 from rfl, show ((1 : Nat) : Int) = 1 from rfl, show ((5 : Nat) : Int) = 5 from rfl] at h0 h1 h2 h5
  rw [h0, h1, h2, h5]
  rfl
theorem sm_ok : fstE smT = 0 := by decide
theorem sm_parse : ∃ last, parseF smS = (some ⟨2, 0, [-1, 1], [⟨0, 1, 2, 1, 5⟩], last⟩, 0, 0) := by
  have := parse_pr sm_ok (by rw [sm_pr]; decide)
  rw [sm_pr] at this
  exact this
theorem sm_p {p : Nat → Bool} (h : UsOk smT p) : p 0 = true ∧ p 1 = true := by
  have ha : (⟨0, 1, 2, 1, 5⟩ : Arc) ∈ smT.arcs := by simp
  have r0 : Rch smT.arcs false [smT.start] 0 := .here (by simp)
  have r1 : Rch smT.arcs false [smT.start] 1 := Rch.on r0 ha rfl
  have b1 : Rch smT.arcs true [((1 : Nat) : Int)] 1 := .here (by simp)
  have b0 : Rch smT.arcs true [((1 : Nat) : Int)] 0 := Rch.on b1 ha rfl
  exact ⟨(h.iff 0 (by decide)).2 ⟨r0, 1, by decide, by decide, b0⟩, (h.iff 1 (by decide)).2 ⟨r1, 1, by decide, by decide, b1⟩⟩
theorem sm_trim {st sa : Int} {fin : List Int} {arcs : List Arc} (h : TrimU smT st sa fin arcs) : st = 2 ∧ sa = 0 ∧ fin = [-1, 1] ∧ arcs = [⟨0, 1, 2, 1, 5⟩] := by
  rcases h with ⟨h, _⟩ | ⟨_, p, hp, h1, h2, h3, h4⟩
  · exact absurd sm_ok h
  · obtain ⟨p0, p1⟩ := sm_p hp
    have hk : kT smT p = ⟨2, 0, [-1, 1], [⟨0, 1, 2, 1, 5⟩], 0, 0⟩ := by
      simp [kT, smT, rkB, kfin, karc, kOk, kArc, p0, p1, List.getD, aD]
    rw [hk] at h1 h2 h3 h4
    exact ⟨h1, h2, h3, h4⟩
theorem sm_same (a b c d : Nat) : sameF ⟨2, 0, [-1, 1], [⟨0, 1, 2, 1, 5⟩], a, b⟩ ⟨2, 0, [-1, 1], [⟨0, 1, 2, 1, 5⟩], c, d⟩ = true := by kernel_rfl

theorem sm_post {g : Glo} {v : SV} {s : S} (h : ParsePost g (parseF smS) v s) : ∃ sp sq, v = .tup [.agg [.i 2, .i 0, .sl 1 1 0 2 (2 + sp), .sl 2 5 0 1 (1 + sq)], .c (.i 0), .c (.i 0)] ∧
    s = ⟨[], [(0, gloO g), (1, .arr true 3 .int [-1, 1] sp), (2, .arr true 35 .arc [⟨0, 1, 2, 1, 5⟩] sq)], 3⟩ := by
  obtain ⟨last, hp⟩ := sm_parse
  rw [hp] at h
  obtain ⟨R, sp, sq, rfl, rfl, rfl⟩ := h
  exact ⟨sp, sq, rfl, rfl⟩
theorem sm_tpost {v : SV} {s : S} (h : TrimPost smT v s) : ∃ sp sq, v = .tup [.agg [.i 2, .i 0, .sl 2 1 0 2 (2 + sp), .sl 3 5 0 1 (1 + sq)], .c (.i 0)] ∧
    s = ⟨[], [(2, .arr true 3 .int [-1, 1] sp), (3, .arr true 35 .arc [⟨0, 1, 2, 1, 5⟩] sq)], 4⟩ := by
  obtain ⟨st, sa, fin, arcs, sp, sq, hU, rfl, rfl⟩ := h
  obtain ⟨rfl, rfl, rfl, rfl⟩ := sm_trim hU
  rw [sm_ok]
  exact ⟨sp, sq, rfl, rfl⟩

set_option maxHeartbeats 8000000 in
set_option maxRecDepth 20000 in
theorem fstBegun_c (g : Glo) (hg : GloX g) : Ct Tryd.prog 10 [] [] [(0, gloO g)] 1 (fun v s => v = .b true ∧ s = ⟨[], [(0, gloO g)], 1⟩) := by
  refine ctW Tryd.tyOk 8 [] Tryd.func10 rfl (by simp) (by simp) (fr := []) rfl ?_
  repeat' (first | exact rfl | ((conv => whnf); first | (refine qX (fun h => ?_) fun h => ?_ <;> try exact absurd h (by omega)) | refine oN ?_ | refine oM ?_ ?_ | refine bM ?_ ?_ | refine dR ?_))
  (conv => whnf)
  refine cF (one_c) [] Tryd.call23 ?_
  rintro _ _ ⟨rfl, rfl⟩
  repeat' (first | exact rfl | ((conv => whnf); first | (refine qX (fun h => ?_) fun h => ?_ <;> try exact absurd h (by omega)) | refine oN ?_ | refine oM ?_ ?_ | refine bM ?_ ?_ | refine dR ?_ | intro _))
  (conv => whnf)
  try simp only [Nat.reduceAdd, Nat.reduceSub]
  refine callF (print_c g hg smT (by decide)) [1, 2, 0] Tryd.call12 rfl (by simp [oneV]) (by simp [oneV]) (by simp) ?_
  rintro _ _ ⟨rfl, rfl⟩
  rw [if_pos sm_ok, sm_ok, sm_pr]
  repeat' (first | exact rfl | ((conv => whnf); first | (refine qX (fun h => ?_) fun h => ?_ <;> try exact absurd h (by omega)) | refine oN ?_ | refine oM ?_ ?_ | refine bM ?_ ?_ | refine dR ?_ | intro _))
  (conv => whnf)
  try simp only [Nat.reduceAdd, Nat.reduceSub]
  refine cF (parse_c g hg smS (by decide)) [0] Tryd.call18 ?_
  rintro _ _ hp
  obtain ⟨sp, sq, rfl, rfl⟩ := sm_post hp
  clear hp
  repeat' (first | exact rfl | ((conv => whnf); first | (refine qX (fun h => ?_) fun h => ?_ <;> try exact absurd h (by omega)) | refine oN ?_ | refine oM ?_ ?_ | refine bM ?_ ?_ | refine dR ?_ | intro _))
  (conv => whnf)
  try simp only [Nat.reduceAdd, Nat.reduceSub]
  refine cF (one_c) [] Tryd.call23 ?_
  rintro _ _ ⟨rfl, rfl⟩
  repeat' (first | exact rfl | ((conv => whnf); first | (refine qX (fun h => ?_) fun h => ?_ <;> try exact absurd h (by omega)) | refine oN ?_ | refine oM ?_ ?_ | refine bM ?_ ?_ | refine dR ?_ | intro _))
  (conv => whnf)
  try simp only [Nat.reduceAdd, Nat.reduceSub]
  refine callF (trim_c smT (by decide)) [6, 7] Tryd.call11 rfl (by simp [oneV]) (by simp [oneV]) (by simp) ?_
  rintro _ _ hp
  obtain ⟨sp2, sq2, rfl, rfl⟩ := sm_tpost hp
  clear hp
  repeat' (first | exact rfl | ((conv => whnf); first | (refine qX (fun h => ?_) fun h => ?_ <;> try exact absurd h (by omega)) | refine oN ?_ | refine oM ?_ ?_ | refine bM ?_ ?_ | refine dR ?_ | intro _))
  (conv => whnf)
  try simp only [Nat.reduceAdd, Nat.reduceSub]
  refine cF (one_c) [] Tryd.call23 ?_
  rintro _ _ ⟨rfl, rfl⟩
  repeat' (first | exact rfl | ((conv => whnf); first | (refine qX (fun h => ?_) fun h => ?_ <;> try exact absurd h (by omega)) | refine oN ?_ | refine oM ?_ ?_ | refine bM ?_ ?_ | refine dR ?_ | intro _))
  (conv => whnf)
  try simp only [Nat.reduceAdd, Nat.reduceSub]
  refine callF (check_c smT (by decide)) [11, 12] Tryd.call16 rfl (by simp [oneV]) (by simp [oneV]) (by simp) ?_
  rintro _ _ ⟨rfl, rfl⟩
  rw [sm_ok]
  repeat' (first | exact rfl | ((conv => whnf); first | (refine qX (fun h => ?_) fun h => ?_ <;> try exact absurd h (by omega)) | refine oN ?_ | refine oM ?_ ?_ | refine bM ?_ ?_ | refine dR ?_ | intro _))
  rotate_left
  · exact absurd rfl h
  (conv => whnf)
  try simp only [Nat.reduceAdd, Nat.reduceSub]
  refine cF (one_c) [] Tryd.call23 ?_
  rintro _ _ ⟨rfl, rfl⟩
  repeat' (first | exact rfl | ((conv => whnf); first | (refine qX (fun h => ?_) fun h => ?_ <;> try exact absurd h (by omega)) | refine oN ?_ | refine oM ?_ ?_ | refine bM ?_ ?_ | refine dR ?_ | intro _))
  (conv => whnf)
  try simp only [Nat.reduceAdd, Nat.reduceSub]
  refine callF (sameFst_c ⟨2, 0, [-1, 1], [⟨0, 1, 2, 1, 5⟩], 2 + sp, 1 + sq⟩ smT (show ([-1, 1] : List Int).length ≤ 9223372036854775807 by decide) (by decide) (show ([⟨0, 1, 2, 1, 5⟩] : List Arc).length ≤ 9223372036854775807 by decide)) [3, 4, 13, 14] Tryd.call20 rfl (by simp [oneV, gV, smT]) (by simp [oneV, gV, smT]) (by simp) ?_
  rintro _ _ ⟨rfl, rfl⟩
  rw [sm_same]
  repeat' (first | exact rfl | ((conv => whnf); first | (refine qX (fun h => ?_) fun h => ?_ <;> try exact absurd h (by omega)) | refine oN ?_ | refine oM ?_ ?_ | refine bM ?_ ?_ | refine dR ?_ | intro _))
  (conv => whnf)
  try simp only [Nat.reduceAdd, Nat.reduceSub]
  refine cF (one_c) [] Tryd.call23 ?_
  rintro _ _ ⟨rfl, rfl⟩
  repeat' (first | exact rfl | ((conv => whnf); first | (refine qX (fun h => ?_) fun h => ?_ <;> try exact absurd h (by omega)) | refine oN ?_ | refine oM ?_ ?_ | refine bM ?_ ?_ | refine dR ?_ | intro _))
  (conv => whnf)
  try simp only [Nat.reduceAdd, Nat.reduceSub]
  refine callF (sameFst_c ⟨2, 0, [-1, 1], [⟨0, 1, 2, 1, 5⟩], 2 + sp2, 1 + sq2⟩ smT (show ([-1, 1] : List Int).length ≤ 9223372036854775807 by decide) (by decide) (show ([⟨0, 1, 2, 1, 5⟩] : List Arc).length ≤ 9223372036854775807 by decide)) [8, 9, 15, 16] Tryd.call20 rfl (by simp [oneV, gV, smT]) (by simp [oneV, gV, smT]) (by simp) ?_
  rintro _ _ ⟨rfl, rfl⟩
  rw [sm_same]
  repeat' (first | exact rfl | ((conv => whnf); first | (refine qX (fun h => ?_) fun h => ?_ <;> try exact absurd h (by omega)) | refine oN ?_ | refine oM ?_ ?_ | refine bM ?_ ?_ | refine dR ?_ | intro _))
  (conv => whnf)
  exact ⟨[], [(0, gloO g)], 1, .b true, ⟨by rfl, trivial, by simp [gloO]⟩, by simp, rfl, rfl⟩
end Go.Fw

/-
  The laws FstTells and FstBack.
-/
namespace Go.Fw
open Go Go.Proofs

theorem TrimU.len {F : TF} {st sa : Int} {fin : List Int} {arcs : List Arc} (h : TrimU F st sa fin arcs) : fin.length ≤ 100000 ∧ arcs.length ≤ 100000 := by
  rcases h with ⟨h0, rfl, rfl, rfl, rfl⟩ | ⟨h0, p, hp, rfl, rfl, rfl, rfl⟩
  · simp
  · obtain ⟨hr, hs, _⟩ := fstE_rng h0
    have h1 := kfin_len p F.fin F.st.toNat
    have h2 := rkB_le p F.st.toNat
    have h3 := karc_len p F.arcs F.arcs.length
    have h4 := hr.st
    have h5 := hr.arcl
    unfold kT
    split
    · simp only
      omega
    · simp
theorem sameF_of {F G : TF} (h : F.st = G.st ∧ F.start = G.start ∧ F.fin = G.fin ∧ F.arcs = G.arcs) : sameF F G = true := decide_eq_true h

set_option maxHeartbeats 16000000 in
set_option maxRecDepth 20000 in
theorem fstTells_yes (g : Glo) (hg : GloX g) (F : TF) (hl : F.fin.length ≤ 9223372036854775807) (hE : fstE F = 0) : Ct Tryd.prog 4 [fV F] [] (hpF F ++ [(2, gloO g)]) 3 (fun v s => v = .b true ∧ s = ⟨[], [(2, gloO g)], 3⟩) := by
  have hpr := print_c g hg F hl
  have hch := checkFst_c F
  have hck := check_c F hl
  have htr := trim_c F hl
  unfold TrimPost at htr
  rw [if_pos hE] at hpr
  rw [hE] at hpr hch hck htr
  obtain ⟨hr, hs, hfin⟩ := fstE_rng hE
  refine ctW Tryd.tyOk 10 [] Tryd.func4 rfl (by simp) (by simp) (fr := [(0, fV F)]) rfl ?_
  repeat' (first | exact rfl | ((conv => whnf); first | (refine qX (fun h => ?_) fun h => ?_ <;> try exact absurd h (by omega)) | refine oN ?_ | refine oM ?_ ?_ | refine bM ?_ ?_ | refine dR ?_))
  (conv => whnf)
  refine cF (hpr) [0, 1, 2] Tryd.call12 ?_
  rintro _ _ ⟨rfl, rfl⟩
  repeat' (first | exact rfl | ((conv => whnf); first | (refine qX (fun h => ?_) fun h => ?_ <;> try exact absurd h (by omega)) | refine oN ?_ | refine oM ?_ ?_ | refine bM ?_ ?_ | refine dR ?_ | intro _))
  (conv => whnf)
  refine cF (htr) [0, 1] Tryd.call11 ?_
  rintro _ _ ⟨st, sa, fin, arcs, sp, sq, hU, rfl, rfl⟩
  repeat' (first | exact rfl | ((conv => whnf); first | (refine qX (fun h => ?_) fun h => ?_ <;> try exact absurd h (by omega)) | refine oN ?_ | refine oM ?_ ?_ | refine bM ?_ ?_ | refine dR ?_ | intro _))
  (conv => whnf)
  try simp only [Nat.reduceAdd, Nat.reduceSub]
  refine cF (hch) [0, 1] Tryd.call13 ?_
  rintro _ _ ⟨rfl, rfl⟩
  repeat' (first | exact rfl | ((conv => whnf); first | (refine qX (fun h => ?_) fun h => ?_ <;> try exact absurd h (by omega)) | refine oN ?_ | refine oM ?_ ?_ | refine bM ?_ ?_ | refine dR ?_ | intro _))
  (conv => whnf)
  try simp only [Nat.reduceAdd, Nat.reduceSub]
  refine cF (printFst_c F hE) [0, 1] Tryd.call14 ?_
  rintro _ _ ⟨rfl, rfl⟩
  repeat' (first | exact rfl | ((conv => whnf); first | (refine qX (fun h => ?_) fun h => ?_ <;> try exact absurd h (by omega)) | refine oN ?_ | refine oM ?_ ?_ | refine bM ?_ ?_ | refine dR ?_ | intro _))
  (conv => whnf)
  try simp only [Nat.reduceAdd, Nat.reduceSub]
  refine cF (trimOf_c F hr hs hfin) [0, 1] Tryd.call15 ?_
  rintro _ _ ⟨p, hp, sp2, sq2, rfl, rfl⟩
  have hsam := hU.uniq (.inr ⟨hE, p, hp, rfl, rfl, rfl, rfl⟩)
  have hfl := hU.len
  clear hU hp
  generalize kT F p = K at *
  obtain ⟨ks, ka, kf, kr, _, _⟩ := K
  simp only at hsam
  obtain ⟨rfl, rfl, rfl, rfl⟩ := hsam
  repeat' (first | exact rfl | ((conv => whnf); first | (refine qX (fun h => ?_) fun h => ?_ <;> try exact absurd h (by omega)) | refine oN ?_ | refine oM ?_ ?_ | refine bM ?_ ?_ | refine dR ?_ | intro _))
  (conv => whnf)
  try simp only [Nat.reduceAdd, Nat.reduceSub]
  refine cF (fstBegun_c g hg) [2] Tryd.call10 ?_
  rintro _ _ ⟨rfl, rfl⟩
  repeat' (first | exact rfl | ((conv => whnf); first | (refine qX (fun h => ?_) fun h => ?_ <;> try exact absurd h (by omega)) | refine oN ?_ | refine oM ?_ ?_ | refine bM ?_ ?_ | refine dR ?_ | intro _))
  (conv => whnf)
  try simp only [Nat.reduceAdd, Nat.reduceSub]
  refine cF (hck) [0, 1] Tryd.call16 ?_
  rintro _ _ ⟨rfl, rfl⟩
  repeat' (first | exact rfl | ((conv => whnf); first | (refine qX (fun h => ?_) fun h => ?_ <;> try exact absurd h (by omega)) | refine oN ?_ | refine oM ?_ ?_ | refine bM ?_ ?_ | refine dR ?_ | intro _))
  rotate_left
  · exact absurd rfl h
  (conv => whnf)
  try simp only [Nat.reduceAdd, Nat.reduceSub]
  have hfs := fstIs_c ⟨st, sa, fin, arcs, fin.length + sp, arcs.length + sq⟩ ⟨st, sa, fin, arcs, fin.length + sp2, arcs.length + sq2⟩ 0 0 (show fin.length ≤ 9223372036854775807 by omega) (show fin.length ≤ 9223372036854775807 by omega) (show arcs.length ≤ 9223372036854775807 by omega)
  rw [if_pos rfl, sameF_of (F := ⟨st, sa, fin, arcs, fin.length + sp, arcs.length + sq⟩) (G := ⟨st, sa, fin, arcs, fin.length + sp2, arcs.length + sq2⟩) ⟨rfl, rfl, rfl, rfl⟩] at hfs
  refine callF (hfs) [4, 5, 8, 9] Tryd.call17 rfl (by simp [gV]) (by simp [gV]) (by simp) ?_
  rintro _ _ ⟨rfl, rfl⟩
  repeat' (first | exact rfl | ((conv => whnf); first | (refine qX (fun h => ?_) fun h => ?_ <;> try exact absurd h (by omega)) | refine oN ?_ | refine oM ?_ ?_ | refine bM ?_ ?_ | refine dR ?_ | intro _))
  (conv => whnf)
  exact ⟨[], [(2, gloO g)], 3, .b true, ⟨by rfl, trivial, by simp [gloO]⟩, by simp, rfl, rfl⟩

set_option maxHeartbeats 16000000 in
set_option maxRecDepth 20000 in
theorem fstTells_no (g : Glo) (hg : GloX g) (F : TF) (hl : F.fin.length ≤ 9223372036854775807) (hE : fstE F ≠ 0) : Ct Tryd.prog 4 [fV F] [] (hpF F ++ [(2, gloO g)]) 3 (fun v s => v = .b true ∧ s = ⟨[], [(2, gloO g)], 3⟩) := by
  have hpr := print_c g hg F hl
  have hch := checkFst_c F
  have hck := check_c F hl
  have htr := trim_c F hl
  unfold TrimPost at htr
  rw [if_neg hE] at hpr
  obtain ⟨y, hy⟩ : ∃ y : List UInt8, y = [] := ⟨[], rfl⟩
  rw [← hy] at hpr
  refine ctW Tryd.tyOk 10 [] Tryd.func4 rfl (by simp) (by simp) (fr := [(0, fV F)]) rfl ?_
  repeat' (first | exact rfl | ((conv => whnf); first | (refine qX (fun h => ?_) fun h => ?_ <;> try exact absurd h (by omega)) | refine oN ?_ | refine oM ?_ ?_ | refine bM ?_ ?_ | refine dR ?_))
  (conv => whnf)
  refine cF (hpr) [0, 1, 2] Tryd.call12 ?_
  rintro _ _ ⟨rfl, rfl⟩
  repeat' (first | exact rfl | ((conv => whnf); first | (refine qX (fun h => ?_) fun h => ?_ <;> try exact absurd h (by omega)) | refine oN ?_ | refine oM ?_ ?_ | refine bM ?_ ?_ | refine dR ?_ | intro _))
  (conv => whnf)
  refine cF (htr) [0, 1] Tryd.call11 ?_
  rintro _ _ ⟨st, sa, fin, arcs, sp, sq, hU, rfl, rfl⟩
  obtain ⟨rfl, rfl, rfl, rfl⟩ := hU.uniq (.inl ⟨hE, rfl, rfl, rfl, rfl⟩)
  clear hU
  repeat' (first | exact rfl | ((conv => whnf); first | (refine qX (fun h => ?_) fun h => ?_ <;> try exact absurd h (by omega)) | refine oN ?_ | refine oM ?_ ?_ | refine bM ?_ ?_ | refine dR ?_ | intro _))
  (conv => whnf)
  try simp only [Nat.reduceAdd, Nat.reduceSub]
  refine cF (hch) [0, 1] Tryd.call13 ?_
  rintro _ _ ⟨rfl, rfl⟩
  generalize fstE F = e at *
  repeat' (first | exact rfl | ((conv => whnf); first | (refine qX (fun h => ?_) fun h => ?_ <;> try exact absurd h (by omega)) | refine oN ?_ | refine oM ?_ ?_ | refine bM ?_ ?_ | refine dR ?_ | intro _))
  (conv => whnf)
  try simp only [Nat.reduceAdd, Nat.reduceSub]
  refine cF (fstBegun_c g hg) [2] Tryd.call10 ?_
  rintro _ _ ⟨rfl, rfl⟩
  repeat' (first | exact rfl | ((conv => whnf); first | (refine qX (fun h => ?_) fun h => ?_ <;> try exact absurd h (by omega)) | refine oN ?_ | refine oM ?_ ?_ | refine bM ?_ ?_ | refine dR ?_ | intro _))
  (conv => whnf)
  try simp only [Nat.reduceAdd, Nat.reduceSub]
  refine cF (hck) [0, 1] Tryd.call16 ?_
  rintro _ _ ⟨rfl, rfl⟩
  repeat' (first | exact rfl | ((conv => whnf); first | (refine qX (fun h => ?_) fun h => ?_ <;> try exact absurd h (by omega)) | refine oN ?_ | refine oM ?_ ?_ | refine bM ?_ ?_ | refine dR ?_ | intro _))
  rotate_left
  · exact absurd (by rw [hy]; rfl) h
  (conv => whnf)
  try simp only [Nat.reduceAdd, Nat.reduceSub]
  refine callNil 3 .int (args' := [.a (.agg [.i 0, .i 0, .sl 4 1 0 0 (0 + sp), .sl 5 5 0 0 (0 + sq)]), .i e, .i e, .a (.agg [.i 0, .i 0, .sl 8 1 0 0 0, .v (.slice none 0 0)])]) (fun β => by simp [SV.den, SA.den, SC.den, Env.add]) ?_
  (conv => whnf)
  refine callNil 35 .arc (args' := [.a (.agg [.i 0, .i 0, .sl 4 1 0 0 (0 + sp), .sl 5 5 0 0 (0 + sq)]), .i e, .i e, .a (.agg [.i 0, .i 0, .sl 8 1 0 0 0, .sl 9 5 0 0 0])]) (fun β => by simp [SV.den, SA.den, SC.den, Env.add]) ?_
  (conv => whnf)
  have hfs := fstIs_c ⟨0, 0, [], [], 0 + sp, 0 + sq⟩ ⟨0, 0, [], [], 0, 0⟩ e e (Nat.zero_le _) (Nat.zero_le _) (Nat.zero_le _)
  rw [if_neg hE, show decide (e = e) = true from decide_eq_true rfl, sameF_of (F := ⟨0, 0, [], [], 0 + sp, 0 + sq⟩) (G := zeroF) ⟨rfl, rfl, rfl, rfl⟩] at hfs
  refine callF (hfs) [4, 5, 8, 9] Tryd.call17 rfl (by simp [gV]) (by simp [gV]) (by simp) ?_
  rintro _ _ ⟨rfl, rfl⟩
  repeat' (first | exact rfl | ((conv => whnf); first | (refine qX (fun h => ?_) fun h => ?_ <;> try exact absurd h (by omega)) | refine oN ?_ | refine oM ?_ ?_ | refine bM ?_ ?_ | refine dR ?_ | intro _))
  (conv => whnf)
  exact ⟨[], [(2, gloO g)], 3, .b true, ⟨by rfl, trivial, by simp [gloO]⟩, by simp, rfl, rfl⟩

theorem fstTells_c (g : Glo) (hg : GloX g) (F : TF) (hl : F.fin.length ≤ 9223372036854775807) : Ct Tryd.prog 4 [fV F] [] (hpF F ++ [(2, gloO g)]) 3 (fun v s => v = .b true ∧ s = ⟨[], [(2, gloO g)], 3⟩) := by
  by_cases hE : fstE F = 0
  · exact fstTells_yes g hg F hl hE
  · exact fstTells_no g hg F hl hE
end Go.Fw
