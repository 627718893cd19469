/-
  Print.
-/
import Derived.Test.YtdijmfdanbnppaaDoorS12
import Derived.Test.YtdijmfdanbnppaaDoorS07
import Derived.Test.YtdijmfdanbnppaaDoorS10
import Derived.Lib.AtoiAllCases

set_option linter.unusedSimpArgs false
set_option linter.unusedVariables false

namespace Go.Fw
open Go Go.Proofs

def tStates : List UInt8 := [115, 116, 97, 116, 101, 115, 32]
def tStart : List UInt8 := [32, 115, 116, 97, 114, 116, 32]
def tFinal : List UInt8 := [102, 105, 110, 97, 108]
def hdL (st sa : Int) : List UInt8 := tStates ++ Lib.itoa st ++ tStart ++ Lib.itoa sa ++ [10]
def finsK (fin : List Int) : Nat → List UInt8
  | 0 => []
  | k + 1 => finsK fin k ++ (if fin.getD k 0 ≠ -1 then lnF tFinal [(k : Int), fin.getD k 0] else [])
def arcL (a : Arc) : List Int := [a.f, a.i, a.o, a.t, a.w]
def arcsK (arcs : List Arc) : Nat → List UInt8
  | 0 => []
  | k + 1 => arcsK arcs k ++ lnF [] (arcL (arcs.getD k aD))
/-- What is printed. -/
def prF (F : TF) : List UInt8 := hdL F.st F.start ++ finsK F.fin F.fin.length ++ arcsK F.arcs F.arcs.length

theorem lnF_len {word : List UInt8} {ns : List Int} (hn : ∀ n ∈ ns, 0 ≤ n ∧ n ≤ 9223372036854775807) : (lnF word ns).length ≤ word.length + 22 * ns.length + 1 := by
  have := lnK_len hn (word := word) ns.length (Nat.le_refl _)
  simp only [lnF, List.length_append, List.length_cons, List.length_nil]
  omega
theorem hdL_len {st sa : Int} (h1 : 0 ≤ st ∧ st ≤ 1000) (h2 : 0 ≤ sa ∧ sa ≤ 1000) : (hdL st sa).length ≤ 100 := by
  have a1 := itoa_len21 h1.1 (by omega)
  have a2 := itoa_len21 h2.1 (by omega)
  simp only [hdL, tStates, tStart, List.length_append, List.length_cons, List.length_nil]
  omega
theorem finsK_len {fin : List Int} (hf : ∀ n ∈ fin, -1 ≤ n ∧ n ≤ 1000000000) (hl : fin.length ≤ 1000) : ∀ k : Nat, k ≤ fin.length → (finsK fin k).length ≤ 100 * k
  | 0, _ => by simp [finsK]
  | k + 1, hk => by
    have h1 := finsK_len hf hl k (by omega)
    have h2 := hf _ (getD_mem fin k 0 (by omega))
    simp only [finsK, List.length_append]
    split
    · rename_i h
      have := lnF_len (word := tFinal) (ns := [(k : Int), fin.getD k 0]) (by
        intro n hn
        simp only [List.mem_cons, List.not_mem_nil, or_false] at hn
        rcases hn with rfl | rfl
        · omega
        · omega)
      have h5 : tFinal.length = 5 := rfl
      simp only [List.length_cons, List.length_nil] at this
      omega
    · simp only [List.length_nil]; omega
theorem arcsK_len {arcs : List Arc} (ha : ∀ a ∈ arcs, ∀ n ∈ arcL a, 0 ≤ n ∧ n ≤ 9223372036854775807) : ∀ k : Nat, k ≤ arcs.length → (arcsK arcs k).length ≤ 200 * k
  | 0, _ => by simp [arcsK]
  | k + 1, hk => by
    have h1 := arcsK_len ha k (by omega)
    have h2 := lnF_len (word := []) (ha _ (getD_mem arcs k aD (by omega)))
    simp only [arcL, List.length_cons, List.length_nil] at h2
    simp only [arcsK, List.length_append]
    unfold arcL
    omega

set_option maxHeartbeats 16000000 in
set_option maxRecDepth 20000 in
theorem print_c (g : Glo) (hg : GloX g) (F : TF) (hl : F.fin.length ≤ 9223372036854775807) :
    Ct Tryd.prog 12 [fV F] [] (hpF F ++ [(2, gloO g)]) 3 (fun v s => v = .tup [.c (stC (if fstE F = 0 then prF F else [])), .c (.i (fstE F))] ∧ s = ⟨[], [(2, gloO g)], 3⟩) := by
  refine ctW Tryd.tyOk 10 [27, 28, 29, 43, 44, 45] Tryd.func12 rfl (by simp) (by simp) (fr := [(0, fV F)]) rfl ?_
  repeat' (first | exact rfl | ((conv => whnf); first | (refine qX (fun h => ?_) fun h => ?_ <;> try exact absurd h (by omega)) | refine oN ?_ | refine oM ?_ ?_ | refine bM ?_ ?_ | refine dR ?_))
  (conv => whnf)
  refine cI (check_c F hl) [0, 1] Tryd.call16 ?_
  repeat' (first | exact rfl | ((conv => whnf); first | (refine qX (fun h => ?_) fun h => ?_ <;> try exact absurd h (by omega)) | refine oN ?_ | refine oM ?_ ?_ | refine bM ?_ ?_ | refine dR ?_))
  · (conv => whnf)
    exact ⟨[], [(2, gloO g)], 3, .tup [.c (stC []), .c (.i (fstE F))], ⟨by rfl, trivial, by simp [gloO]⟩, by simp, by rw [if_neg h], rfl⟩
  have hF := fstE_ok h
  have hst := hF.st
  have hsa := hF.start
  have hfl := hF.finl
  have hfin := hF.fin
  have hal := hF.arcl
  have i1 := itoa_len21 (n := F.st) (by omega) (by omega)
  have i2 := itoa_len21 (n := F.start) (by omega) (by omega)
  have hh := hdL_len (st := F.st) (sa := F.start) (by omega) (by omega)
  have h0 : (Lib.itoa F.st).length ≤ 21 := i1
  (conv => whnf)
  refine cF (itoa_c g hg F.st (by omega) (by omega)) [2] Tryd.call27 ?_
  rintro _ _ ⟨rfl, rfl⟩
  repeat' (first | exact rfl | ((conv => whnf); first | (refine qX (fun h => ?_) fun h => ?_ <;> try exact absurd h (by omega)) | refine oN ?_ | refine oM ?_ ?_ | refine bM ?_ ?_ | refine dR ?_))
  (conv => whnf)
  refine cF (itoa_c g hg F.start (by omega) (by omega)) [2] Tryd.call27 ?_
  rintro _ _ ⟨rfl, rfl⟩
  repeat' (first | exact rfl | ((conv => whnf); first | (refine qX (fun h => ?_) fun h => ?_ <;> try exact absurd h (by omega)) | refine oN ?_ | refine oM ?_ ?_ | refine bM ?_ ?_ | refine dR ?_))
  (conv => whnf)
  refine callF (write0_c (hdL F.st F.start) (by omega)) [4] Tryd.call26 rfl (by simp [hdL, tStates, tStart, bs_app]) (by simp [hdL, tStates, tStart, bs_app]) (by simp) ?_
  rintro _ _ ⟨rfl, rfl⟩
  simp only [Nat.reduceAdd, Nat.reduceSub]
  generalize hhd : hdL F.st F.start = hd at *
  repeat' (first | exact rfl | ((conv => whnf); first | (refine qX (fun h => ?_) fun h => ?_ <;> try exact absurd h (by omega)) | refine oN ?_ | refine oM ?_ ?_ | refine bM ?_ ?_ | refine dR ?_))
  (conv => whnf)
  refine loopI (fun k : Nat => ⟨[(1, .c (.ptr 3 0)), (5, .c (.ptr 4 0)), (27, .c (.sl 0 1 0 F.fin.length F.capF)), (28, .i F.fin.length), (29, .i k)], hpF F ++ [(2, gloO g), (3, .box 25 (fCells F)), (4, bldO (hd ++ finsK F.fin k))], 5⟩)
    (fun k => k ≤ F.fin.length) (fun k => F.fin.length - k) 0 [] ⟨by rfl, ?_, ?_⟩ (Nat.zero_le _) ?_
  · simp
  · simp [fCells, finsK]
  · intro k hk
    have hkl := finsK_len hfin (by omega) k hk
    (conv => whnf)
    refine condP_dec (fun hk2 => ?_) (fun hk2 => ?_)
    · have hr := hfin _ (getD_mem F.fin k 0 (by omega))
      have hv : F.fin.getD (0 + (k : Int).toNat) EK.int.dflt = F.fin.getD k 0 := by rw [show 0 + (k : Int).toNat = k by omega]; rfl
      have hs : finsK F.fin (k + 1) = finsK F.fin k ++ (if F.fin.getD k 0 ≠ -1 then lnF tFinal [(k : Int), F.fin.getD k 0] else []) := rfl
      generalize hx : finsK F.fin k = x at *
      repeat' (first | exact rfl | ((conv => whnf); first | (refine qX (fun h => ?_) fun h => ?_ <;> try exact absurd h (by omega)) | refine oN ?_ | refine oM ?_ ?_ | refine bM ?_ ?_ | refine dR ?_))
      · rw [hv] at h
        have hln : ∀ n ∈ [(k : Int), F.fin.getD k 0], 0 ≤ n ∧ n ≤ 9223372036854775807 := by
          intro n hn
          simp only [List.mem_cons, List.not_mem_nil, or_false] at hn
          rcases hn with rfl | rfl
          · omega
          · omega
        have hll := lnF_len (word := tFinal) hln
        have h5 : tFinal.length = 5 := rfl
        simp only [List.length_cons, List.length_nil] at hll
        rw [if_pos h] at hs
        (conv => whnf)
        rw [hv]
        refine callF (line_c g hg tFinal [(k : Int), F.fin.getD k 0] 2 (by omega) (by simp) hln) [5, 2] Tryd.call28 rfl (by simp [tFinal]) (by simp [tFinal]) (by simp) ?_
        rintro _ _ ⟨rfl, rfl⟩
        generalize hln2 : lnF tFinal [(k : Int), F.fin.getD k 0] = ln at *
        repeat' (first | exact rfl | ((conv => whnf); first | (refine qX (fun h => ?_) fun h => ?_ <;> try exact absurd h (by omega)) | refine oN ?_ | refine oM ?_ ?_ | refine bM ?_ ?_ | refine dR ?_))
        (conv => whnf)
        have hbl : (hd ++ x).length + ln.length ≤ 140737488355328 := by rw [List.length_append]; omega
        refine cF (write_c (hd ++ x) ln hbl) [4] Tryd.call26 ?_
        rintro _ _ ⟨rfl, rfl⟩
        repeat' (first | exact rfl | ((conv => whnf); first | (refine qX (fun h => ?_) fun h => ?_ <;> try exact absurd h (by omega)) | refine oN ?_ | refine oM ?_ ?_ | refine bM ?_ ?_ | refine dR ?_))
        (conv => whnf)
        refine ⟨k + 1, [], ⟨by rfl, ?_, ?_⟩, by omega, by omega⟩
        · simp
        · simp [fCells, hs]
      · rw [hv] at h
        rw [if_neg (fun h2 => h2 h), List.append_nil] at hs
        (conv => whnf)
        refine ⟨k + 1, [], ⟨by rfl, ?_, ?_⟩, by omega, by omega⟩
        · simp
        · simp [fCells, hs]
    · have e : k = F.fin.length := by omega
      subst e
      generalize hfx : finsK F.fin F.fin.length = fx at *
      repeat' (first | exact rfl | ((conv => whnf); first | (refine qX (fun h => ?_) fun h => ?_ <;> try exact absurd h (by omega)) | refine oN ?_ | refine oM ?_ ?_ | refine bM ?_ ?_ | refine dR ?_))
      (conv => whnf)
      refine loopI (fun k : Nat => ⟨[(1, .c (.ptr 3 0)), (5, .c (.ptr 4 0)), (43, .c (.sl 1 5 0 F.arcs.length F.capA)), (44, .i F.arcs.length), (45, .i k)], hpF F ++ [(2, gloO g), (3, .box 25 (fCells F)), (4, bldO (hd ++ fx ++ arcsK F.arcs k))], 5⟩)
        (fun k => k ≤ F.arcs.length) (fun k => F.arcs.length - k) 0 [] ⟨by rfl, ?_, ?_⟩ (Nat.zero_le _) ?_
      · simp
      · simp [fCells, arcsK]
      · intro k hk
        have harc : ∀ a ∈ F.arcs, ∀ n ∈ arcL a, 0 ≤ n ∧ n ≤ 9223372036854775807 := by
          intro a ha n hn
          obtain ⟨q1, q2, q3, q4, q5, q6, q7, q8⟩ := hF.arc a ha
          simp only [arcL, List.mem_cons, List.not_mem_nil, or_false] at hn
          rcases hn with rfl | rfl | rfl | rfl | rfl <;> omega
        have hal2 := arcsK_len harc k hk
        (conv => whnf)
        refine condP_dec (fun hk2 => ?_) (fun hk2 => ?_)
        · have hln := harc _ (getD_mem F.arcs k aD (by omega))
          have hv : F.arcs.getD (0 + (k : Int).toNat) EK.arc.dflt = F.arcs.getD k aD := by rw [show 0 + (k : Int).toNat = k by omega]; rfl
          have hs : arcsK F.arcs (k + 1) = arcsK F.arcs k ++ lnF [] (arcL (F.arcs.getD k aD)) := rfl
          have hll := lnF_len (word := []) hln
          have h5 : (arcL (F.arcs.getD k aD)).length = 5 := rfl
          simp only [List.length_nil] at hll
          generalize hx : arcsK F.arcs k = x at *
          generalize hae : F.arcs.getD k aD = a at *
          repeat' (first | exact rfl | ((conv => whnf); first | (refine qX (fun h => ?_) fun h => ?_ <;> try exact absurd h (by omega)) | refine oN ?_ | refine oM ?_ ?_ | refine bM ?_ ?_ | refine dR ?_))
          (conv => whnf)
          rw [hv]
          refine callF (line_c g hg [] (arcL a) 5 (by simp) (by omega) hln) [6, 2] Tryd.call28 rfl (by simp [arcL]) (by simp [arcL]) (by simp) ?_
          rintro _ _ ⟨rfl, rfl⟩
          generalize hln2 : lnF [] (arcL a) = ln at *
          repeat' (first | exact rfl | ((conv => whnf); first | (refine qX (fun h => ?_) fun h => ?_ <;> try exact absurd h (by omega)) | refine oN ?_ | refine oM ?_ ?_ | refine bM ?_ ?_ | refine dR ?_))
          (conv => whnf)
          have hbl : (hd ++ fx ++ x).length + ln.length ≤ 140737488355328 := by
            have := finsK_len hfin (by omega) F.fin.length (Nat.le_refl _)
            rw [hfx] at this
            rw [List.length_append, List.length_append]
            omega
          refine cF (write_c (hd ++ fx ++ x) ln hbl) [4] Tryd.call26 ?_
          rintro _ _ ⟨rfl, rfl⟩
          repeat' (first | exact rfl | ((conv => whnf); first | (refine qX (fun h => ?_) fun h => ?_ <;> try exact absurd h (by omega)) | refine oN ?_ | refine oM ?_ ?_ | refine bM ?_ ?_ | refine dR ?_))
          (conv => whnf)
          refine ⟨k + 1, [], ⟨by rfl, ?_, ?_⟩, by omega, by omega⟩
          · simp
          · simp [fCells, hs]
        · have e : k = F.arcs.length := by omega
          subst e
          have hne : hd ++ fx ++ arcsK F.arcs F.arcs.length ≠ [] := by
            rw [← hhd]
            simp [hdL, tStates]
          have hpr : prF F = hd ++ fx ++ arcsK F.arcs F.arcs.length := by
            unfold prF
            rw [hhd, hfx]
          repeat' (first | exact rfl | ((conv => whnf); first | (refine qX (fun h => ?_) fun h => ?_ <;> try exact absurd h (by omega)) | refine oN ?_ | refine oM ?_ ?_ | refine bM ?_ ?_ | refine dR ?_))
          (conv => whnf)
          refine cF (string_c _ hne) [4] Tryd.call29 ?_
          rintro _ _ ⟨rfl, rfl⟩
          repeat' (first | exact rfl | ((conv => whnf); first | (refine qX (fun h => ?_) fun h => ?_ <;> try exact absurd h (by omega)) | refine oN ?_ | refine oM ?_ ?_ | refine bM ?_ ?_ | refine dR ?_))
          (conv => whnf)
          exact ⟨[], [(2, gloO g)], 3, .tup [.c (stC (hd ++ fx ++ arcsK F.arcs F.arcs.length)), .c (.i 0)], ⟨by rfl, trivial, by simp [gloO]⟩, by simp, by rw [if_pos h, hpr, h], rfl⟩
end Go.Fw

/-
  numbers: of words, as many as there must be.
-/
namespace Go.Fw
open Go Go.Proofs

/-- The number that a word is. -/
def numO (x : List UInt8) : Option Int := match Lib.atoiAll x with
  | .ok n => if x.length ≤ 10 ∧ 0 ≤ n ∧ Lib.itoa n = x then some n else none
  | _ => none
def numsO : List (List UInt8) → Option (List Int)
  | [] => some []
  | x :: l => match numO x, numsO l with
    | some n, some ns => some (n :: ns)
    | _, _ => none

theorem numsO_cons (x : List UInt8) (l : List (List UInt8)) : numsO (x :: l) = match numO x, numsO l with
    | some n, some ns => some (n :: ns)
    | _, _ => none := rfl
theorem numsO_snoc (x : List UInt8) : ∀ l : List (List UInt8), numsO (l ++ [x]) = match numsO l, numO x with
    | some ns, some n => some (ns ++ [n])
    | _, _ => none
  | [] => by
    rw [List.nil_append, numsO_cons]
    cases numO x <;> rfl
  | y :: l => by
    rw [List.cons_append, numsO_cons, numsO_cons, numsO_snoc x l]
    cases numO y <;> cases numsO l <;> cases numO x <;> rfl
theorem numsO_bad {x : List UInt8} (h : numO x = none) : ∀ l : List (List UInt8), x ∈ l → numsO l = none
  | y :: l, hx => by
    rw [numsO_cons]
    rcases List.mem_cons.1 hx with rfl | hx
    · rw [h]
    · rw [numsO_bad h l hx]
      cases numO y <;> rfl
theorem numsO_len : ∀ {l : List (List UInt8)} {ns : List Int}, numsO l = some ns → ns.length = l.length
  | [], ns, h => by cases h; rfl
  | x :: l, ns, h => by
    rw [numsO_cons] at h
    cases hx : numO x with
    | none => rw [hx] at h; cases h
    | some n =>
      cases hl : numsO l with
      | none => rw [hx, hl] at h; cases h
      | some ms => rw [hx, hl] at h; cases h; simp [numsO_len hl]
theorem numO_rng {x : List UInt8} {n : Int} (h : numO x = some n) : 0 ≤ n ∧ n ≤ 9223372036854775807 := by
  unfold numO at h
  split at h
  · rename_i m hm
    split at h
    · rename_i hc
      cases h
      exact ⟨hc.2.1, (Lib.atoiAll_bounds hm).2⟩
    · cases h
  · cases h
theorem numsO_rng : ∀ {l : List (List UInt8)} {ns : List Int}, numsO l = some ns → ∀ n ∈ ns, 0 ≤ n ∧ n ≤ 9223372036854775807
  | [], ns, h => by cases h; simp
  | x :: l, ns, h => by
    rw [numsO_cons] at h
    cases hx : numO x with
    | none => rw [hx] at h; cases h
    | some n =>
      cases hl : numsO l with
      | none => rw [hx, hl] at h; cases h
      | some ms =>
        rw [hx, hl] at h
        cases h
        intro m hm
        rcases List.mem_cons.1 hm with rfl | hm
        · exact numO_rng hx
        · exact numsO_rng hl m hm

theorem mapbs_getD (l : List (List UInt8)) (i : Nat) : (l.map bs).getD i EK.str.dflt = bs (l.getD i []) := by
  simp only [List.getD_eq_getElem?_getD, List.getElem?_map]
  cases l[i]? <;> rfl

/-- What numbers answers. -/
def NumPost (g : Glo) (l : List (List UInt8)) (many : Int) (v : SV) (s : S) : Prop :=
  (∃ ns sp, numsO l = some ns ∧ (l.length : Int) = many ∧ v = .tup [.c (.sl 2 1 0 ns.length (ns.length + sp)), .c (.b true)] ∧ s = ⟨[], [(1, gloO g), (2, .arr true 3 .int ns sp)], 3⟩) ∨
  ((numsO l = none ∨ (l.length : Int) ≠ many) ∧ v = .tup [.c (.v (.slice none 0 0)), .c (.b false)] ∧ s = ⟨[], [(1, gloO g)], 2⟩)

set_option maxHeartbeats 16000000 in
set_option maxRecDepth 20000 in
theorem numbers_c (g : Glo) (hg : GloX g) (LL : List (List UInt8)) (lo len cap : Nat) (many : Int) (hlo : lo + len ≤ LL.length) (hm : 0 < many) (hsz : ∀ x ∈ LL, x.length ≤ 1000000) (hL : LL.length ≤ 1000000) :
    Ct Tryd.prog 59 [.c (.sl 0 1 lo len cap), .i many] [] [(0, .arr false 9 .str (LL.map bs) 0), (1, gloO g)] 2 (NumPost g ((LL.drop lo).take len) many) := by
  have hll : ((LL.drop lo).take len).length = len := by simp; omega
  refine ctW Tryd.tyOk 11 [15, 16, 17] Tryd.func59 rfl (by simp) (by simp) (fr := [(0, .c (.sl 0 1 lo len cap)), (1, .i many)]) rfl ?_
  repeat' (first | exact rfl | ((conv => whnf); first | (refine qX (fun h => ?_) fun h => ?_ <;> try exact absurd h (by omega)) | refine oN ?_ | refine oM ?_ ?_ | refine bM ?_ ?_ | refine dR ?_))
  · (conv => whnf)
    exact ⟨[], [(1, gloO g)], 2, .tup [.c (.v (.slice none 0 0)), .c (.b false)], ⟨by rfl, trivial, by simp [gloO]⟩, by simp, .inr ⟨.inr (by rw [hll]; exact h), rfl, rfl⟩⟩
  (conv => whnf)
  refine loopI (fun z : Nat × List Int × Nat => ⟨[(0, .c (.sl 0 1 lo len cap)), (6, .c (.sl 2 1 0 z.2.1.length (z.2.1.length + z.2.2))), (15, .c (.sl 0 1 lo len cap)), (16, .i len), (17, .i z.1)], [(0, .arr false 9 .str (LL.map bs) 0), (1, gloO g), (2, .arr true 3 .int z.2.1 z.2.2)], 3⟩)
    (fun z => z.1 ≤ len ∧ numsO ((LL.drop lo).take z.1) = some z.2.1) (fun z => len - z.1) (0, [], 0) [(2, none)] ⟨by rfl, ?_, ?_⟩ ⟨Nat.zero_le _, by simp [numsO]⟩ ?_
  · simp
  · simp [gloO, nilO]
  · rintro ⟨k, ns, sp⟩ ⟨hk, hns⟩
    simp only at hk hns ⊢
    (conv => whnf)
    refine condP_dec (fun hk2 => ?_) (fun hk2 => ?_)
    · have hv : (LL.map bs).getD (lo + (k : Int).toNat) EK.str.dflt = bs (LL.getD (lo + k) []) := by rw [show lo + (k : Int).toNat = lo + k by omega, mapbs_getD]
      have hx1 := hsz _ (getD_mem LL (lo + k) [] (by omega))
      have hnl := numsO_len hns
      have hxm : LL.getD (lo + k) [] ∈ (LL.drop lo).take len := by
        rw [List.mem_iff_getElem?]
        refine ⟨k, ?_⟩
        rw [List.getElem?_take_of_lt (by omega), List.getElem?_drop, List.getD_eq_getElem?_getD, List.getElem?_eq_getElem (by omega)]
        rfl
      have hsn : (LL.drop lo).take (k + 1) = (LL.drop lo).take k ++ [LL.getD (lo + k) []] := by
        rw [List.take_add_one, List.getElem?_drop, List.getD_eq_getElem?_getD, List.getElem?_eq_getElem (by omega)]
        rfl
      have hkl : ((LL.drop lo).take k).length = k := by simp; omega
      generalize hx : LL.getD (lo + k) [] = x at *
      have bad : numO x = none → numsO ((LL.drop lo).take len) = none := fun h => numsO_bad h _ hxm
      have hbx := bs_size x
      repeat' (first | exact rfl | ((conv => whnf); first | (refine qX (fun h => ?_) fun h => ?_ <;> try exact absurd h (by omega)) | refine oN ?_ | refine oM ?_ ?_ | refine bM ?_ ?_ | refine dR ?_))
      (conv => whnf)
      rw [hv]
      refine cF (atoi_c g hg x hx1) [1] Tryd.call71 ?_
      rintro _ _ ⟨n, e, rfl, hi, rfl⟩
      rcases hi with ⟨hok, rfl⟩ | ⟨hno, t, a, rfl⟩
      · have hnb := Lib.atoiAll_bounds hok
        have hnum : numO x = if x.length ≤ 10 ∧ 0 ≤ n ∧ Lib.itoa n = x then some n else none := by unfold numO; rw [hok]
        repeat' (first | exact rfl | ((conv => whnf); first | (refine qX (fun h => ?_) fun h => ?_ <;> try exact absurd h (by omega)) | refine oN ?_ | refine oM ?_ ?_ | refine bM ?_ ?_ | refine dR ?_))
        · (conv => whnf)
          exact ⟨[], [(1, gloO g)], 2, .tup [.c (.v (.slice none 0 0)), .c (.b false)], ⟨by rfl, trivial, by simp [gloO]⟩, by simp, .inr ⟨.inl (bad (by rw [hnum, if_neg (fun c => by omega)])), rfl, rfl⟩⟩
        · (conv => whnf)
          exact ⟨[], [(1, gloO g)], 2, .tup [.c (.v (.slice none 0 0)), .c (.b false)], ⟨by rfl, trivial, by simp [gloO]⟩, by simp, .inr ⟨.inl (bad (by rw [hnum, if_neg (fun c => by omega)])), rfl, rfl⟩⟩
        (conv => whnf)
        refine cF (itoa_c g hg n hnb.1 hnb.2) [1] Tryd.call27 ?_
        rintro _ _ ⟨rfl, rfl⟩
        repeat' (first | exact rfl | ((conv => whnf); first | (refine qX (fun h => ?_) fun h => ?_ <;> try exact absurd h (by omega)) | refine oN ?_ | refine oM ?_ ?_ | refine bM ?_ ?_ | refine dR ?_))
        · rw [bs_data, bs_data] at h
          (conv => whnf)
          exact ⟨[], [(1, gloO g)], 2, .tup [.c (.v (.slice none 0 0)), .c (.b false)], ⟨by rfl, trivial, by simp [gloO]⟩, by simp, .inr ⟨.inl (bad (by rw [hnum, if_neg (fun c => h c.2.2)])), rfl, rfl⟩⟩
        · rw [bs_data, bs_data] at h
          have hsome : numO x = some n := by rw [hnum, if_pos ⟨by omega, by omega, h⟩]
          (conv => whnf)
          intro sp2
          repeat' (first | exact rfl | ((conv => whnf); first | (refine qX (fun h => ?_) fun h => ?_ <;> try exact absurd h (by omega)) | refine oN ?_ | refine oM ?_ ?_ | refine bM ?_ ?_ | refine dR ?_))
          (conv => whnf)
          simp only [Nat.reduceAdd, Nat.reduceSub]
          refine ⟨(k + 1, ns ++ [n], sp2), [(2, some 4)], ⟨by rfl, ?_, ?_⟩, ⟨by simp only; omega, ?_⟩, by simp only; omega⟩
          · simp [List.length_append]
          · simp [gloO, lOp.appL, sub]
          · simp only
            rw [hsn, numsO_snoc, hns, hsome]
      · have hnone : numO x = none := by
          unfold numO
          split
          · rename_i m hm; exact absurd hm (hno m)
          · rfl
        repeat' (first | exact rfl | ((conv => whnf); first | (refine qX (fun h => ?_) fun h => ?_ <;> try exact absurd h (by omega)) | refine oN ?_ | refine oM ?_ ?_ | refine bM ?_ ?_ | refine dR ?_))
        (conv => whnf)
        exact ⟨[], [(1, gloO g)], 2, .tup [.c (.v (.slice none 0 0)), .c (.b false)], ⟨by rfl, trivial, by simp [gloO]⟩, by simp, .inr ⟨.inl (bad hnone), rfl, rfl⟩⟩
    · have e : k = len := by omega
      subst e
      repeat' (first | exact rfl | ((conv => whnf); first | (refine qX (fun h => ?_) fun h => ?_ <;> try exact absurd h (by omega)) | refine oN ?_ | refine oM ?_ ?_ | refine bM ?_ ?_ | refine dR ?_))
      (conv => whnf)
      exact ⟨[], [(1, gloO g), (2, .arr true 3 .int ns sp)], 3, .tup [.c (.sl 2 1 0 ns.length (ns.length + sp)), .c (.b true)], ⟨by rfl, trivial, by simp [gloO]⟩, by simp, .inl ⟨ns, sp, hns, by rw [hll]; exact h, rfl, rfl⟩⟩
end Go.Fw

/-
  The reader's three: arc, head, final.
-/
namespace Go.Fw
open Go Go.Proofs

structure RV where
  st : Int
  sa : Int
  fin : List Int
  arcs : List Arc
  last : Int

def rdC (R : RV) (i j sp sq : Nat) : List SC := [.i R.st, .i R.sa, .sl i 1 0 R.fin.length (R.fin.length + sp), .sl j 5 0 R.arcs.length (R.arcs.length + sq), .i R.last, .b (!R.arcs.isEmpty)]
abbrev rdH (R : RV) (i j sp sq : Nat) : List (Nat × SO) := [(0, .box 83 (rdC R i j sp sq)), (i, .arr true 3 .int R.fin sp), (j, .arr true 35 .arc R.arcs sq)]

/-- What one of the three answers. -/
def TakePost (g : Glo) (o : Option RV) (v : SV) (s : S) : Prop := ∃ R sp sq, s = ⟨[], rdH R 5 6 sp sq ++ [(4, gloO g)], 7⟩ ∧ ((o = some R ∧ v = .b true) ∨ (o = none ∧ v = .b false))

def nth (ns : List Int) (i : Nat) : Int := ns.getD i 0
def arcF (R : RV) (l : List (List UInt8)) : Option RV := if l.length = 5 then (numsO l).map fun ns => { R with arcs := R.arcs ++ [⟨nth ns 0, nth ns 1, nth ns 2, nth ns 3, nth ns 4⟩] } else none
def finF (R : RV) (l : List (List UInt8)) : Option RV := if (l.drop 1).length = 2 then (numsO (l.drop 1)).bind fun ns => if R.arcs = [] ∧ R.last < nth ns 0 ∧ nth ns 0 < R.st then some { R with fin := R.fin.set (nth ns 0).toNat (nth ns 1), last := nth ns 0 } else none else none
def wStates : List UInt8 := [115, 116, 97, 116, 101, 115]
def wStart : List UInt8 := [115, 116, 97, 114, 116]
def headF (l : List (List UInt8)) : Option RV := if l.length = 4 ∧ l.getD 0 [] = wStates ∧ l.getD 2 [] = wStart then (numsO [l.getD 1 [], l.getD 3 []]).bind fun ns => if 1 ≤ nth ns 0 ∧ nth ns 0 ≤ 200 then some ⟨nth ns 0, nth ns 1, List.replicate (nth ns 0).toNat (-1), [], -1⟩ else none else none

set_option maxHeartbeats 16000000 in
set_option maxRecDepth 20000 in
theorem arc_c (g : Glo) (hg : GloX g) (R : RV) (sp sq : Nat) (LL : List (List UInt8)) (cap : Nat) (hsz : ∀ x ∈ LL, x.length ≤ 1000000) (hL : LL.length ≤ 1000000) (ha : R.arcs.length ≤ 1000000) :
    Ct Tryd.prog 40 [.c (.ptr 0 0), .c (.sl 3 1 0 LL.length cap)] [] (rdH R 1 2 sp sq ++ [(3, .arr false 9 .str (LL.map bs) 0), (4, gloO g)]) 5 (TakePost g (arcF R LL)) := by
  have hnum := numbers_c g hg LL 0 LL.length cap 5 (by omega) (by omega) hsz hL
  rw [List.drop_zero, List.take_length] at hnum
  refine ctW Tryd.tyOk 8 [] Tryd.func40 rfl (by simp) (by simp) (fr := [(0, .c (.ptr 0 0)), (1, .c (.sl 3 1 0 LL.length cap))]) rfl ?_
  repeat' (first | exact rfl | ((conv => whnf); first | (refine qX (fun h => ?_) fun h => ?_ <;> try exact absurd h (by omega)) | refine oN ?_ | refine oM ?_ ?_ | refine bM ?_ ?_ | refine dR ?_))
  (conv => whnf)
  refine cF (hnum) [3, 4] Tryd.call59 ?_
  rintro v s (⟨ns, sp3, hns, hl5, rfl, rfl⟩ | ⟨hbad, rfl, rfl⟩)
  · have hnl := numsO_len hns
    repeat' (first | exact rfl | ((conv => whnf); first | (refine qX (fun h => ?_) fun h => ?_ <;> try exact absurd h (by omega)) | refine oN ?_ | refine oM ?_ ?_ | refine bM ?_ ?_ | refine dR ?_))
    intro sq2
    repeat' (first | exact rfl | ((conv => whnf); first | (refine qX (fun h => ?_) fun h => ?_ <;> try exact absurd h (by omega)) | refine oN ?_ | refine oM ?_ ?_ | refine bM ?_ ?_ | refine dR ?_))
    (conv => whnf)
    simp only [Nat.reduceAdd, Nat.reduceSub]
    refine ⟨[(5, some 1), (6, some 7)], rdH { R with arcs := R.arcs ++ [⟨nth ns 0, nth ns 1, nth ns 2, nth ns 3, nth ns 4⟩] } 5 6 sp sq2 ++ [(4, gloO g)], 7, .b true, ⟨by rfl, trivial, ?_⟩, by simp, { R with arcs := R.arcs ++ [⟨nth ns 0, nth ns 1, nth ns 2, nth ns 3, nth ns 4⟩] }, sp, sq2, rfl, .inl ⟨?_, rfl⟩⟩
    · simp [rdC, lOp.appL, sub, nth, EK.dflt]
    · unfold arcF
      rw [if_pos (by omega), hns]
      rfl
  · repeat' (first | exact rfl | ((conv => whnf); first | (refine qX (fun h => ?_) fun h => ?_ <;> try exact absurd h (by omega)) | refine oN ?_ | refine oM ?_ ?_ | refine bM ?_ ?_ | refine dR ?_))
    (conv => whnf)
    refine ⟨[(5, some 1), (6, some 2)], rdH R 5 6 sp sq ++ [(4, gloO g)], 7, .b false, ⟨by rfl, trivial, by simp [gloO, rdC]⟩, by simp, R, sp, sq, rfl, .inr ⟨?_, rfl⟩⟩
    unfold arcF
    split
    · rcases hbad with h | h
      · rw [h]; rfl
      · omega
    · rfl
end Go.Fw

/-
  The reader's final.
-/
namespace Go.Fw
open Go Go.Proofs

set_option maxHeartbeats 16000000 in
set_option maxRecDepth 20000 in
theorem final_c (g : Glo) (hg : GloX g) (R : RV) (sp sq : Nat) (LL : List (List UInt8)) (hsz : ∀ x ∈ LL, x.length ≤ 1000000) (hL : LL.length ≤ 1000000) (h1 : 1 ≤ LL.length) (hfl : (R.fin.length : Int) = R.st) :
    Ct Tryd.prog 42 [.c (.ptr 0 0), .c (.sl 3 1 0 LL.length LL.length)] [] (rdH R 1 2 sp sq ++ [(3, .arr false 9 .str (LL.map bs) 0), (4, gloO g)]) 5 (TakePost g (finF R LL)) := by
  have hdl : (LL.drop 1).length = LL.length - 1 := by simp
  have hnum : ∀ lo len cap : Nat, lo + len ≤ LL.length → (LL.drop lo).take len = LL.drop 1 → Ct Tryd.prog 59 [SV.c (SC.sl 0 1 lo len cap), SV.i 2] [] [(0, SO.arr false 9 EK.str (List.map bs LL) 0), (1, gloO g)] 2 (NumPost g (LL.drop 1) 2) := fun lo len cap h e => by
    have := numbers_c g hg LL lo len cap 2 h (by omega) hsz hL
    rwa [e] at this
  refine ctW Tryd.tyOk 8 [] Tryd.func42 rfl (by simp) (by simp) (fr := [(0, .c (.ptr 0 0)), (1, .c (.sl 3 1 0 LL.length LL.length))]) rfl ?_
  repeat' (first | exact rfl | ((conv => whnf); first | (refine qX (fun h => ?_) fun h => ?_ <;> try exact absurd h (by omega)) | refine oN ?_ | refine oM ?_ ?_ | refine bM ?_ ?_ | refine dR ?_))
  · (conv => whnf)
    refine cF (hnum (0 + Int.toNat 1) ((LL.length : Int) - 1).toNat (LL.length - Int.toNat 1) (by omega) (by rw [show 0 + Int.toNat 1 = 1 from rfl, List.take_of_length_le (by omega)])) [3, 4] Tryd.call59 ?_
    rintro v s (⟨ns, sp3, hns, hl5, rfl, rfl⟩ | ⟨hbad, rfl, rfl⟩)
    · have hnl := numsO_len hns
      have hn0 := numsO_rng hns _ (getD_mem ns 0 0 (by omega))
      have hff : finF R LL = if R.arcs = [] ∧ R.last < nth ns 0 ∧ nth ns 0 < R.st then some { R with fin := R.fin.set (nth ns 0).toNat (nth ns 1), last := nth ns 0 } else none := by
        unfold finF
        rw [if_pos (by omega), hns]
        rfl
      have hn0' : 0 ≤ nth ns 0 := hn0.1
      have ret : ∀ k, finF R LL = none → k = SV.b false → TakePost g (finF R LL) k ⟨[], rdH R 5 6 sp sq ++ [(4, gloO g)], 7⟩ := fun k e1 e2 => ⟨R, sp, sq, rfl, .inr ⟨e1, e2⟩⟩
      repeat' (first | exact rfl | ((conv => whnf); first | (refine qX (fun h => ?_) fun h => ?_ <;> try exact absurd h (by omega)) | refine oN ?_ | refine oM ?_ ?_ | refine bM ?_ ?_ | refine dR ?_))
      · (conv => whnf)
        have hne : ¬ R.arcs = [] := fun c => by rw [c] at h; cases h
        exact ⟨[(5, some 1), (6, some 2)], rdH R 5 6 sp sq ++ [(4, gloO g)], 7, .b false, ⟨by rfl, trivial, by simp [gloO, rdC]⟩, by simp, ret _ (by rw [hff, if_neg (fun c => hne c.1)]) rfl⟩
      · have h2 : nth ns 0 ≤ R.last := h
        (conv => whnf)
        exact ⟨[(5, some 1), (6, some 2)], rdH R 5 6 sp sq ++ [(4, gloO g)], 7, .b false, ⟨by rfl, trivial, by simp [gloO, rdC]⟩, by simp, ret _ (by rw [hff, if_neg (fun c => by omega)]) rfl⟩
      · have h2 : nth ns 0 ≥ R.st := h
        (conv => whnf)
        exact ⟨[(5, some 1), (6, some 2)], rdH R 5 6 sp sq ++ [(4, gloO g)], 7, .b false, ⟨by rfl, trivial, by simp [gloO, rdC]⟩, by simp, ret _ (by rw [hff, if_neg (fun c => by omega)]) rfl⟩
      · have h2 : ¬ nth ns 0 ≥ R.st := h
        show 0 ≤ nth ns 0 ∧ nth ns 0 < R.fin.length ∧ 0 + R.fin.length ≤ R.fin.length
        omega
      · have h2 : ¬ nth ns 0 ≥ R.st := h
        show 0 + (nth ns 0).toNat < R.fin.length
        omega
      · rename_i he h2
        have h3' : ¬ nth ns 0 ≥ R.st := h
        have h2' : ¬ nth ns 0 ≤ R.last := h2
        have hem : R.arcs = [] := by simpa using he
        repeat' (first | exact rfl | ((conv => whnf); first | (refine qX (fun h => ?_) fun h => ?_ <;> try exact absurd h (by omega)) | refine oN ?_ | refine oM ?_ ?_ | refine bM ?_ ?_ | refine dR ?_))
        (conv => whnf)
        simp only [Nat.reduceAdd, Nat.reduceSub]
        refine ⟨[(5, some 1), (6, some 2)], rdH { R with fin := R.fin.set (nth ns 0).toNat (nth ns 1), last := nth ns 0 } 5 6 sp sq ++ [(4, gloO g)], 7, .b true, ⟨by rfl, trivial, ?_⟩, by simp, { R with fin := R.fin.set (nth ns 0).toNat (nth ns 1), last := nth ns 0 }, sp, sq, rfl, .inl ⟨by rw [hff, if_pos ⟨hem, by omega, by omega⟩], rfl⟩⟩
        simp [rdC, nth, EK.dflt]
    · repeat' (first | exact rfl | ((conv => whnf); first | (refine qX (fun h => ?_) fun h => ?_ <;> try exact absurd h (by omega)) | refine oN ?_ | refine oM ?_ ?_ | refine bM ?_ ?_ | refine dR ?_))
      (conv => whnf)
      refine ⟨[(5, some 1), (6, some 2)], rdH R 5 6 sp sq ++ [(4, gloO g)], 7, .b false, ⟨by rfl, trivial, by simp [gloO, rdC]⟩, by simp, R, sp, sq, rfl, .inr ⟨?_, rfl⟩⟩
      unfold finF
      split
      · rcases hbad with h | h
        · rw [h]; rfl
        · omega
      · rfl
  · (conv => whnf)
    refine cF (hnum 0 ((LL.length : Int) - 1).toNat (LL.length - Int.toNat 1) (by omega) (by rw [List.drop_zero, List.take_eq_nil_iff.2 (.inl (by omega)), List.drop_eq_nil_of_le (by omega)])) [3, 4] Tryd.call59 ?_
    rintro v s (⟨ns, sp3, hns, hl5, rfl, rfl⟩ | ⟨hbad, rfl, rfl⟩)
    · omega
    · repeat' (first | exact rfl | ((conv => whnf); first | (refine qX (fun h => ?_) fun h => ?_ <;> try exact absurd h (by omega)) | refine oN ?_ | refine oM ?_ ?_ | refine bM ?_ ?_ | refine dR ?_))
      (conv => whnf)
      refine ⟨[(5, some 1), (6, some 2)], rdH R 5 6 sp sq ++ [(4, gloO g)], 7, .b false, ⟨by rfl, trivial, by simp [gloO, rdC]⟩, by simp, R, sp, sq, rfl, .inr ⟨?_, rfl⟩⟩
      unfold finF
      rw [if_neg (by omega)]
end Go.Fw

/-
  The reader's head.
-/
namespace Go.Fw
open Go Go.Proofs

set_option maxHeartbeats 16000000 in
set_option maxRecDepth 20000 in
theorem head_c (g : Glo) (hg : GloX g) (R : RV) (sp sq : Nat) (LL : List (List UInt8)) (cap : Nat) (hsz : ∀ x ∈ LL, x.length ≤ 1000000) (hra : R.arcs = []) :
    Ct Tryd.prog 41 [.c (.ptr 0 0), .c (.sl 3 1 0 LL.length cap)] [] (rdH R 1 2 sp sq ++ [(3, .arr false 9 .str (LL.map bs) 0), (4, gloO g)]) 5 (TakePost g (headF LL)) := by
  have hv : ∀ i : Nat, (LL.map bs).getD i EK.str.dflt = bs (LL.getD i []) := fun i => mapbs_getD LL i
  refine ctW Tryd.tyOk 7 [] Tryd.func41 rfl (by simp) (by simp) (fr := [(0, .c (.ptr 0 0)), (1, .c (.sl 3 1 0 LL.length cap))]) rfl ?_
  have v0 : (LL.map bs).getD (0 + Int.toNat 0) EK.str.dflt = bs (LL.getD 0 []) := hv 0
  have v1 : (LL.map bs).getD (0 + Int.toNat 1) EK.str.dflt = bs (LL.getD 1 []) := hv 1
  have v2 : (LL.map bs).getD (0 + Int.toNat 2) EK.str.dflt = bs (LL.getD 2 []) := hv 2
  have v3 : (LL.map bs).getD (0 + Int.toNat 3) EK.str.dflt = bs (LL.getD 3 []) := hv 3
  have ret : ∀ k, headF LL = none → k = SV.b false → TakePost g (headF LL) k ⟨[], rdH R 5 6 sp sq ++ [(4, gloO g)], 7⟩ := fun k e1 e2 => ⟨R, sp, sq, rfl, .inr ⟨e1, e2⟩⟩
  repeat' (first | exact rfl | ((conv => whnf); first | (refine qX (fun h => ?_) fun h => ?_ <;> try exact absurd h (by omega)) | refine oN ?_ | refine oM ?_ ?_ | refine bM ?_ ?_ | refine dR ?_))
  · (conv => whnf)
    exact ⟨[(5, some 1), (6, some 2)], rdH R 5 6 sp sq ++ [(4, gloO g)], 7, .b false, ⟨by rfl, trivial, by simp [gloO, rdC]⟩, by simp, ret _ (by unfold headF; rw [if_neg (fun c => h (by omega))]) rfl⟩
  · rw [v0, bs_data] at h
    (conv => whnf)
    exact ⟨[(5, some 1), (6, some 2)], rdH R 5 6 sp sq ++ [(4, gloO g)], 7, .b false, ⟨by rfl, trivial, by simp [gloO, rdC]⟩, by simp, ret _ (by unfold headF; rw [if_neg (fun c => h c.2.1)]) rfl⟩
  · rw [v2, bs_data] at h
    (conv => whnf)
    exact ⟨[(5, some 1), (6, some 2)], rdH R 5 6 sp sq ++ [(4, gloO g)], 7, .b false, ⟨by rfl, trivial, by simp [gloO, rdC]⟩, by simp, ret _ (by unfold headF; rw [if_neg (fun c => h c.2.2)]) rfl⟩
  rename_i h4 h0
  rw [v0, bs_data] at h0
  rw [v2, bs_data] at h
  have hhd : headF LL = (numsO [LL.getD 1 [], LL.getD 3 []]).bind fun ns => if 1 ≤ nth ns 0 ∧ nth ns 0 ≤ 200 then some ⟨nth ns 0, nth ns 1, List.replicate (nth ns 0).toNat (-1), [], -1⟩ else none := by
    unfold headF
    rw [if_pos ⟨by omega, h0, h⟩]
  have z1 := hsz _ (getD_mem LL 1 [] (by omega))
  have z3 := hsz _ (getD_mem LL 3 [] (by omega))
  generalize hA : LL.getD 1 [] = A at *
  generalize hB : LL.getD 3 [] = B at *
  repeat' (first | exact rfl | ((conv => whnf); first | (refine qX (fun h => ?_) fun h => ?_ <;> try exact absurd h (by omega)) | refine oN ?_ | refine oM ?_ ?_ | refine bM ?_ ?_ | refine dR ?_))
  (conv => whnf)
  rw [v1, v3]
  have hnum := numbers_c g hg [A, B] 0 2 2 2 (by simp) (by omega) (by simp; exact ⟨z1, z3⟩) (by simp)
  rw [List.drop_zero, List.take_of_length_le (by simp)] at hnum
  refine cF (hnum) [5, 4] Tryd.call59 ?_
  rintro v s (⟨ns, sp3, hns, hl5, rfl, rfl⟩ | ⟨hbad, rfl, rfl⟩)
  · have hnl := numsO_len hns
    simp only [List.length_cons, List.length_nil] at hnl
    rw [hns] at hhd
    have hn0 := numsO_rng hns _ (getD_mem ns 0 0 (by omega))
    have q0 : ns.getD (0 + Int.toNat 0) EK.int.dflt = nth ns 0 := rfl
    have q1 : ns.getD (0 + Int.toNat 1) EK.int.dflt = nth ns 1 := rfl
    repeat' (first | exact rfl | ((conv => whnf); first | (refine qX (fun h => ?_) fun h => ?_ <;> try exact absurd h (by omega)) | refine oN ?_ | refine oM ?_ ?_ | refine bM ?_ ?_ | refine dR ?_))
    (conv => whnf)
    refine cI (within_c (ns.getD (0 + Int.toNat 0) EK.int.dflt) 1 200) [] Tryd.call34 ?_
    repeat' (first | exact rfl | ((conv => whnf); first | (refine qX (fun h => ?_) fun h => ?_ <;> try exact absurd h (by omega)) | refine oN ?_ | refine oM ?_ ?_ | refine bM ?_ ?_ | refine dR ?_))
    · rw [q0] at h
      (conv => whnf)
      exact ⟨[(5, some 1), (6, some 2)], rdH R 5 6 sp sq ++ [(4, gloO g)], 7, .b false, ⟨by rfl, trivial, by simp [gloO, rdC]⟩, by simp, ret _ (by rw [hhd]; exact if_neg (fun c => by omega)) rfl⟩
    rw [q0] at h
    repeat' (first | exact rfl | ((conv => whnf); first | (refine qX (fun h => ?_) fun h => ?_ <;> try exact absurd h (by omega)) | refine oN ?_ | refine oM ?_ ?_ | refine bM ?_ ?_ | refine dR ?_))
    (conv => whnf)
    simp only [Nat.reduceAdd, Nat.reduceSub]
    refine cF (repeat_c (-1) (ns.getD (0 + Int.toNat 0) EK.int.dflt) 1 hn0.1 (by omega)) [7] Tryd.call60 ?_
    rintro _ _ ⟨rfl, rfl⟩
    repeat' (first | exact rfl | ((conv => whnf); first | (refine qX (fun h => ?_) fun h => ?_ <;> try exact absurd h (by omega)) | refine oN ?_ | refine oM ?_ ?_ | refine bM ?_ ?_ | refine dR ?_))
    (conv => whnf)
    simp only [Nat.reduceAdd, Nat.reduceSub]
    refine ⟨[(5, some 8), (6, none)], rdH ⟨nth ns 0, nth ns 1, List.replicate (nth ns 0).toNat (-1), [], -1⟩ 5 6 0 0 ++ [(4, gloO g)], 7, .b true, ⟨by rfl, trivial, ?_⟩, by simp, ⟨nth ns 0, nth ns 1, List.replicate (nth ns 0).toNat (-1), [], -1⟩, 0, 0, rfl, .inl ⟨by rw [hhd]; exact if_pos h, rfl⟩⟩
    simp [rdC, hra, nilO, nth, EK.dflt]
  · repeat' (first | exact rfl | ((conv => whnf); first | (refine qX (fun h => ?_) fun h => ?_ <;> try exact absurd h (by omega)) | refine oN ?_ | refine oM ?_ ?_ | refine bM ?_ ?_ | refine dR ?_))
    (conv => whnf)
    refine ⟨[(5, some 1), (6, some 2)], rdH R 5 6 sp sq ++ [(4, gloO g)], 7, .b false, ⟨by rfl, trivial, by simp [gloO, rdC]⟩, by simp, ret _ ?_ rfl⟩
    rcases hbad with c | c
    · rw [hhd, c]; rfl
    · simp at c
end Go.Fw

/-
  Parse.
-/
namespace Go.Fw
open Go Go.Proofs

def takeF (n : Nat) (R : RV) (l : List (List UInt8)) : Option RV := if n = 1 then headF l else if l.getD 0 [] = tFinal then finF R l else arcF R l
/-- The lines, one by one: what was read, or the line at which it ends. -/
def runL : Nat → RV → List (List UInt8) → Sum RV Nat
  | n, _, [] => .inr n
  | n, R, [x] => if n ≠ 1 ∧ x = [] then .inl R else .inr n
  | n, R, x :: y :: r => match takeF n R (spl 32 x) with
    | some R' => runL (n + 1) R' (y :: r)
    | none => .inr n
def zeroR : RV := ⟨0, 0, [], [], 0⟩
def tfR (R : RV) : TF := ⟨R.st, R.sa, R.fin, R.arcs, 0, 0⟩
/-- What Parse answers. -/
def parseF (s : List UInt8) : Option RV × Int × Int := if 100000 < s.length then (none, 0, 2) else match runL 1 zeroR (spl 10 s) with
  | .inr n => (none, n, 1)
  | .inl R => if fstE (tfR R) = 0 then (some R, 0, 0) else (none, 0, fstE (tfR R))
def ParsePost (g : Glo) (o : Option RV × Int × Int) (v : SV) (s : S) : Prop := ∃ R sp sq, R = o.1.getD zeroR ∧ v = .tup [.agg [.i R.st, .i R.sa, .sl 1 1 0 R.fin.length (R.fin.length + sp), .sl 2 5 0 R.arcs.length (R.arcs.length + sq)], .c (.i o.2.1), .c (.i o.2.2)] ∧
  s = ⟨[], [(0, gloO g), (1, .arr true 3 .int R.fin sp), (2, .arr true 35 .arc R.arcs sq)], 3⟩

theorem spl_len (c : UInt8) : ∀ (k : Nat) (l : List UInt8), l.length ≤ k → (spl c l).length ≤ l.length + 1 ∧ ∀ x ∈ spl c l, x.length ≤ l.length
  | k, [], _ => by simp [spl]
  | 0, x :: l, h => by simp at h
  | k + 1, x :: l, h => by
    obtain ⟨h1, h2⟩ := spl_len c k l (by simpa using h)
    rw [spl_cons]
    split
    · refine ⟨by simp only [List.length_cons]; omega, fun y hy => ?_⟩
      rcases List.mem_cons.1 hy with rfl | hy
      · simp
      · have := h2 y hy; simp only [List.length_cons]; omega
    · cases hs : spl c l with
      | nil => exact absurd hs (spl_ne c l)
      | cons a r =>
        rw [hs] at h1 h2
        refine ⟨by simp only [List.length_cons] at h1 ⊢; omega, fun y hy => ?_⟩
        rcases List.mem_cons.1 hy with rfl | hy
        · have := h2 a (by simp); simp only [List.length_cons]; omega
        · have := h2 y (by simp [hy]); simp only [List.length_cons]; omega
theorem cutL_fst (c : UInt8) : ∀ l : List UInt8, (cutL c l).1.length ≤ l.length
  | [] => by simp [cutL]
  | x :: l => by
    have := cutL_fst c l
    rw [cutL_cons]
    split
    · simp
    · simp only [List.length_cons]; omega

abbrev zr25 : List SC := [.i 0, .i 0, .v (.slice none 0 0), .v (.slice none 0 0)]

structure RdOk (n : Nat) (R : RV) (s : List UInt8) : Prop where
  one : n = 1 → R.arcs = []
  fin : n ≠ 1 → (R.fin.length : Int) = R.st
  cnt : R.arcs.length + s.length ≤ 100001
  num : n + s.length ≤ 100001
  pos : 1 ≤ n
  flen : R.fin.length ≤ 1000

theorem takeF_ok {n : Nat} {R R' : RV} {s s' : List UInt8} {l : List (List UInt8)} (h : RdOk n R s) (hs : s'.length < s.length) (ht : takeF n R l = some R') : RdOk (n + 1) R' s' := by
  have h1 := h.cnt
  have h2 := h.num
  have h3 := h.pos
  have h4 := h.flen
  unfold takeF at ht
  split at ht
  · unfold headF at ht
    split at ht
    · cases hn : numsO [l.getD 1 [], l.getD 3 []] with
      | none => rw [hn] at ht; cases ht
      | some ns =>
        rw [hn] at ht
        simp only [Option.bind_some] at ht
        split at ht
        · cases ht
          exact ⟨fun c => by omega, fun _ => by simp only [List.length_replicate]; omega, by simp only [List.length_nil]; omega, by omega, by omega, by simp only [List.length_replicate]; omega⟩
        · cases ht
    · cases ht
  · rename_i hn1
    have hf := h.fin hn1
    split at ht
    · unfold finF at ht
      split at ht
      · cases hn : numsO (l.drop 1) with
        | none => rw [hn] at ht; cases ht
        | some ns =>
          rw [hn] at ht
          simp only [Option.bind_some] at ht
          split at ht
          · cases ht
            exact ⟨fun c => by omega, fun _ => by simp only [List.length_set]; exact hf, by simp only; omega, by omega, by omega, by simp only [List.length_set]; exact h4⟩
          · cases ht
      · cases ht
    · unfold arcF at ht
      split at ht
      · cases hn : numsO l with
        | none => rw [hn] at ht; cases ht
        | some ns =>
          rw [hn] at ht
          cases ht
          exact ⟨fun c => by omega, fun _ => hf, by simp only [List.length_append, List.length_cons, List.length_nil]; omega, by omega, by omega, h4⟩
      · cases ht

theorem runL_go {n : Nat} {R : RV} {s : List UInt8} (hc : (cutL 10 s).2.2 = true) : runL n R (spl 10 s) = match takeF n R (spl 32 (cutL 10 s).1) with
    | some R' => runL (n + 1) R' (spl 10 (cutL 10 s).2.1)
    | none => .inr n := by
  rw [spl_cut 10 s, hc, if_pos rfl]
  cases h : spl 10 (cutL 10 s).2.1 with
  | nil => exact absurd h (spl_ne _ _)
  | cons y r => rfl
theorem runL_stop {n : Nat} {R : RV} {s : List UInt8} (hc : (cutL 10 s).2.2 = false) (h : n = 1 ∨ s ≠ []) : runL n R (spl 10 s) = .inr n := by
  rw [spl_cut 10 s, hc, if_neg (by simp), (cutL_miss 10 s hc).1]
  unfold runL
  rw [if_neg]
  rintro ⟨h1, h2⟩
  rcases h with h | h
  · exact h1 h
  · exact h h2
theorem runL_end {n : Nat} {R : RV} (h : n ≠ 1) : runL n R (spl 10 []) = .inl R := by
  unfold spl runL
  rw [if_pos ⟨h, rfl⟩]

theorem parse_no (g : Glo) {o : Option RV × Int × Int} {n e : Int} (h : o = (none, n, e)) : ParsePost g o (.tup [.agg [.i 0, .i 0, .sl 1 1 0 0 0, .sl 2 5 0 0 0], .c (.i n), .c (.i e)]) ⟨[], [(0, gloO g), (1, .arr true 3 .int [] 0), (2, .arr true 35 .arc [] 0)], 3⟩ := by
  subst h
  exact ⟨zeroR, 0, 0, rfl, rfl, rfl⟩

set_option maxHeartbeats 16000000 in
set_option maxRecDepth 20000 in
theorem parse_c (g : Glo) (hg : GloX g) (s0 : List UInt8) (hs0 : s0.length ≤ 9223372036854775807) :
    Ct Tryd.prog 18 [stV s0] [] [(0, gloO g)] 1 (ParsePost g (parseF s0)) := by
  have hbs := bs_size s0
  refine ctW Tryd.tyOk 13 [] Tryd.func18 rfl (by simp) (by simp) (fr := [(0, stV s0)]) rfl ?_
  repeat' (first | exact rfl | ((conv => whnf); first | (refine qX (fun h => ?_) fun h => ?_ <;> try exact absurd h (by omega)) | refine oN ?_ | refine oM ?_ ?_ | refine bM ?_ ?_ | refine dR ?_))
  · (conv => whnf)
    refine ⟨[(1, none), (2, none)], [(0, gloO g), (1, .arr true 3 .int [] 0), (2, .arr true 35 .arc [] 0)], 3, .tup [.agg [.i 0, .i 0, .sl 1 1 0 0 0, .sl 2 5 0 0 0], .c (.i 0), .c (.i 2)], ⟨by rfl, trivial, by simp [gloO, nilO]⟩, by simp, parse_no g ?_⟩
    unfold parseF
    rw [if_pos (by omega)]
  (conv => whnf)
  refine loopI (fun z : (List UInt8 × Nat) × RV × Nat × Nat => ⟨[(0, stV z.1.1), (2, .c (.ptr 1 0)), (5, .c (.ptr 2 0)), (6, .i z.1.2)], [(0, gloO g), (1, .box 25 zr25), (2, .box 83 (rdC z.2.1 3 4 z.2.2.1 z.2.2.2)), (3, .arr true 3 .int z.2.1.fin z.2.2.1), (4, .arr true 35 .arc z.2.1.arcs z.2.2.2)], 5⟩)
    (fun z => RdOk z.1.2 z.2.1 z.1.1 ∧ runL z.1.2 z.2.1 (spl 10 z.1.1) = runL 1 zeroR (spl 10 s0)) (fun z => z.1.1.length) ((s0, 1), zeroR, 0, 0) [(3, none), (4, none)] ⟨by rfl, ?_, ?_⟩ ⟨⟨fun _ => rfl, fun c => absurd rfl c, by simp only [zeroR, List.length_nil]; omega, by simp only; omega, Nat.le_refl _, Nat.zero_le _⟩, rfl⟩ ?_
  · simp
  · simp [gloO, nilO, rdC, zeroR]
  · rintro ⟨⟨s, n⟩, R, sp, sq⟩ ⟨hR, hrun⟩
    simp only at hR hrun ⊢
    have hcnt := hR.cnt
    have hnum := hR.num
    have hsl : s.length ≤ 100001 := by omega
    have hX := cutL_fst 10 s
    have hlt := cutL_len 10 s
    have hsp := spl_len 32 _ (cutL 10 s).1 (Nat.le_refl _)
    have hsp1 : 1 ≤ (spl 32 (cutL 10 s).1).length := List.length_pos_iff.2 (spl_ne _ _)
    have hsz : ∀ x ∈ spl 32 (cutL 10 s).1, x.length ≤ 1000000 := fun x hx => by have := hsp.2 x hx; omega
    have bad : (n = 1 ∨ s ≠ []) → ((!(cutL 10 s).2.2) = true ∨ takeF n R (spl 32 (cutL 10 s).1) = none) → parseF s0 = (none, (n : Int), 1) := by
      intro hn hb
      have hr : runL 1 zeroR (spl 10 s0) = .inr n := by
        rw [← hrun]
        cases hc : (cutL 10 s).2.2 with
        | false => exact runL_stop hc hn
        | true =>
          rw [runL_go hc]
          rcases hb with hb | hb
          · rw [hc] at hb; cases hb
          · rw [hb]
      unfold parseF
      rw [if_neg (by omega), hr]
    have next : ∀ R', (!(cutL 10 s).2.2) = false → takeF n R (spl 32 (cutL 10 s).1) = some R' → (cutL 10 s).2.1.length < s.length ∧ RdOk (n + 1) R' (cutL 10 s).2.1 ∧ runL (n + 1) R' (spl 10 (cutL 10 s).2.1) = runL 1 zeroR (spl 10 s0) := by
      intro R' hc ht
      have hc : (cutL 10 s).2.2 = true := by simpa using hc
      refine ⟨hlt hc, takeF_ok hR (hlt hc) ht, ?_⟩
      rw [← hrun, runL_go hc, ht]
    generalize hx : (cutL 10 s).1 = x at *
    generalize hre : (cutL 10 s).2.1 = rest at *
    generalize hok : (cutL 10 s).2.2 = ok at *
    have hcut := cut_c g hg s 10 (by omega)
    rw [hx, hre, hok] at hcut
    repeat' (first | exact rfl | ((conv => whnf); first | (refine qX (fun h => ?_) fun h => ?_ <;> try exact absurd h (by omega)) | refine oN ?_ | refine oM ?_ ?_ | refine bM ?_ ?_ | refine dR ?_))
    · have hn1 : n = 1 := by omega
      have hta : takeF n R (spl 32 x) = headF (spl 32 x) := by unfold takeF; rw [if_pos hn1]
      (conv => whnf)
      refine cF (hcut) [0] Tryd.call38 ?_
      rintro _ _ ⟨rfl, rfl⟩
      repeat' (first | exact rfl | ((conv => whnf); first | (refine qX (fun h => ?_) fun h => ?_ <;> try exact absurd h (by omega)) | refine oN ?_ | refine oM ?_ ?_ | refine bM ?_ ?_ | refine dR ?_))
      (conv => whnf)
      refine cF (split_c g hg x 32 (by omega)) [0] Tryd.call39 ?_
      rintro _ _ ⟨rfl, rfl⟩
      repeat' (first | exact rfl | ((conv => whnf); first | (refine qX (fun h => ?_) fun h => ?_ <;> try exact absurd h (by omega)) | refine oN ?_ | refine oM ?_ ?_ | refine bM ?_ ?_ | refine dR ?_))
      · (conv => whnf)
        refine ⟨[(1, none), (2, none)], [(0, gloO g), (1, .arr true 3 .int [] 0), (2, .arr true 35 .arc [] 0)], 3, .tup [.agg [.i 0, .i 0, .sl 1 1 0 0 0, .sl 2 5 0 0 0], .c (.i n), .c (.i 1)], ⟨by rfl, trivial, by simp [gloO, nilO]⟩, by simp, parse_no g (bad (.inl hn1) (.inl h))⟩
      (conv => whnf)
      refine callF (head_c g hg R sp sq (spl 32 x) (spl 32 x).length hsz (hR.one hn1)) [2, 3, 4, 5, 0] Tryd.call41 rfl (by simp [rdC]) (by simp [rdC]) (by simp) ?_
      rintro v s' ⟨R', sp', sq', rfl, (⟨ht, rfl⟩ | ⟨ht, rfl⟩)⟩
      · obtain ⟨n1, n2, n3⟩ := next R' h (by rw [hta]; exact ht)
        have hnb := n2.num
        repeat' (first | exact rfl | ((conv => whnf); first | (refine qX (fun h => ?_) fun h => ?_ <;> try exact absurd h (by omega)) | refine oN ?_ | refine oM ?_ ?_ | refine bM ?_ ?_ | refine dR ?_))
        (conv => whnf)
        simp only [Nat.reduceAdd, Nat.reduceSub]
        refine ⟨((rest, n + 1), R', sp', sq'), [(3, some 6), (4, some 7)], ⟨by rfl, ?_, ?_⟩, ⟨n2, n3⟩, n1⟩
        · simp
        · simp [rdC]
      · repeat' (first | exact rfl | ((conv => whnf); first | (refine qX (fun h => ?_) fun h => ?_ <;> try exact absurd h (by omega)) | refine oN ?_ | refine oM ?_ ?_ | refine bM ?_ ?_ | refine dR ?_))
        (conv => whnf)
        refine ⟨[(1, none), (2, none)], [(0, gloO g), (1, .arr true 3 .int [] 0), (2, .arr true 35 .arc [] 0)], 3, .tup [.agg [.i 0, .i 0, .sl 1 1 0 0 0, .sl 2 5 0 0 0], .c (.i n), .c (.i 1)], ⟨by rfl, trivial, by simp [gloO, nilO]⟩, by simp, parse_no g (bad (.inl hn1) (.inr (by rw [hta]; exact ht)))⟩
    · rename_i hn0
      have hn1 : n ≠ 1 := fun c => hn0 (by omega)
      rw [bs_data] at h
      have hse : s ≠ [] := h
      (conv => whnf)
      refine cF (hcut) [0] Tryd.call38 ?_
      rintro _ _ ⟨rfl, rfl⟩
      repeat' (first | exact rfl | ((conv => whnf); first | (refine qX (fun h => ?_) fun h => ?_ <;> try exact absurd h (by omega)) | refine oN ?_ | refine oM ?_ ?_ | refine bM ?_ ?_ | refine dR ?_))
      (conv => whnf)
      refine cF (split_c g hg x 32 (by omega)) [0] Tryd.call39 ?_
      rintro _ _ ⟨rfl, rfl⟩
      have hv : ((spl 32 x).map bs).getD (0 + Int.toNat 0) EK.str.dflt = bs ((spl 32 x).getD 0 []) := mapbs_getD _ 0
      repeat' (first | exact rfl | ((conv => whnf); first | (refine qX (fun h => ?_) fun h => ?_ <;> try exact absurd h (by omega)) | refine oN ?_ | refine oM ?_ ?_ | refine bM ?_ ?_ | refine dR ?_))
      · (conv => whnf)
        refine ⟨[(1, none), (2, none)], [(0, gloO g), (1, .arr true 3 .int [] 0), (2, .arr true 35 .arc [] 0)], 3, .tup [.agg [.i 0, .i 0, .sl 1 1 0 0 0, .sl 2 5 0 0 0], .c (.i n), .c (.i 1)], ⟨by rfl, trivial, by simp [gloO, nilO]⟩, by simp, parse_no g (bad (.inr hse) (.inl h))⟩
      · have hta : takeF n R (spl 32 x) = finF R (spl 32 x) := by
                  rename_i _ hq
                  rw [hv, bs_data] at hq
                  unfold takeF
                  rw [if_neg hn1]; exact if_pos hq
        (conv => whnf)
        refine callF (final_c g hg R sp sq (spl 32 x) hsz (by omega) hsp1 (hR.fin hn1)) [2, 3, 4, 5, 0] Tryd.call42 rfl (by simp [rdC]) (by simp [rdC]) (by simp) ?_
        rintro v s' ⟨R', sp', sq', rfl, (⟨ht, rfl⟩ | ⟨ht, rfl⟩)⟩
        · obtain ⟨n1, n2, n3⟩ := next R' h (by rw [hta]; exact ht)
          have hnb := n2.num
          repeat' (first | exact rfl | ((conv => whnf); first | (refine qX (fun h => ?_) fun h => ?_ <;> try exact absurd h (by omega)) | refine oN ?_ | refine oM ?_ ?_ | refine bM ?_ ?_ | refine dR ?_))
          (conv => whnf)
          simp only [Nat.reduceAdd, Nat.reduceSub]
          refine ⟨((rest, n + 1), R', sp', sq'), [(3, some 6), (4, some 7)], ⟨by rfl, ?_, ?_⟩, ⟨n2, n3⟩, n1⟩
          · simp
          · simp [rdC]
        · repeat' (first | exact rfl | ((conv => whnf); first | (refine qX (fun h => ?_) fun h => ?_ <;> try exact absurd h (by omega)) | refine oN ?_ | refine oM ?_ ?_ | refine bM ?_ ?_ | refine dR ?_))
          (conv => whnf)
          refine ⟨[(1, none), (2, none)], [(0, gloO g), (1, .arr true 3 .int [] 0), (2, .arr true 35 .arc [] 0)], 3, .tup [.agg [.i 0, .i 0, .sl 1 1 0 0 0, .sl 2 5 0 0 0], .c (.i n), .c (.i 1)], ⟨by rfl, trivial, by simp [gloO, nilO]⟩, by simp, parse_no g (bad (.inr hse) (.inr (by rw [hta]; exact ht)))⟩
      · (conv => whnf)
        refine ⟨[(1, none), (2, none)], [(0, gloO g), (1, .arr true 3 .int [] 0), (2, .arr true 35 .arc [] 0)], 3, .tup [.agg [.i 0, .i 0, .sl 1 1 0 0 0, .sl 2 5 0 0 0], .c (.i n), .c (.i 1)], ⟨by rfl, trivial, by simp [gloO, nilO]⟩, by simp, parse_no g (bad (.inr hse) (.inl h))⟩
      · have hta : takeF n R (spl 32 x) = arcF R (spl 32 x) := by
                  rename_i _ hq
                  rw [hv, bs_data] at hq
                  unfold takeF
                  rw [if_neg hn1]; exact if_neg hq
        (conv => whnf)
        refine callF (arc_c g hg R sp sq (spl 32 x) (spl 32 x).length hsz (by omega) (by omega)) [2, 3, 4, 5, 0] Tryd.call40 rfl (by simp [rdC]) (by simp [rdC]) (by simp) ?_
        rintro v s' ⟨R', sp', sq', rfl, (⟨ht, rfl⟩ | ⟨ht, rfl⟩)⟩
        · obtain ⟨n1, n2, n3⟩ := next R' h (by rw [hta]; exact ht)
          have hnb := n2.num
          repeat' (first | exact rfl | ((conv => whnf); first | (refine qX (fun h => ?_) fun h => ?_ <;> try exact absurd h (by omega)) | refine oN ?_ | refine oM ?_ ?_ | refine bM ?_ ?_ | refine dR ?_))
          (conv => whnf)
          simp only [Nat.reduceAdd, Nat.reduceSub]
          refine ⟨((rest, n + 1), R', sp', sq'), [(3, some 6), (4, some 7)], ⟨by rfl, ?_, ?_⟩, ⟨n2, n3⟩, n1⟩
          · simp
          · simp [rdC]
        · repeat' (first | exact rfl | ((conv => whnf); first | (refine qX (fun h => ?_) fun h => ?_ <;> try exact absurd h (by omega)) | refine oN ?_ | refine oM ?_ ?_ | refine bM ?_ ?_ | refine dR ?_))
          (conv => whnf)
          refine ⟨[(1, none), (2, none)], [(0, gloO g), (1, .arr true 3 .int [] 0), (2, .arr true 35 .arc [] 0)], 3, .tup [.agg [.i 0, .i 0, .sl 1 1 0 0 0, .sl 2 5 0 0 0], .c (.i n), .c (.i 1)], ⟨by rfl, trivial, by simp [gloO, nilO]⟩, by simp, parse_no g (bad (.inr hse) (.inr (by rw [hta]; exact ht)))⟩
    · rename_i hn0
      have hn1 : n ≠ 1 := fun c => hn0 (by omega)
      rw [bs_data] at h
      have hse : s = [] := h
      have hp : parseF s0 = if fstE (tfR R) = 0 then (some R, 0, 0) else (none, 0, fstE (tfR R)) := by
        unfold parseF
        rw [if_neg (by omega), ← hrun, hse, runL_end hn1]
      have hfl : R.fin.length ≤ 9223372036854775807 := by have := hR.flen; omega
      have hF : fstE ⟨R.st, R.sa, R.fin, R.arcs, R.fin.length + sp, R.arcs.length + sq⟩ = fstE (tfR R) := rfl
      generalize hfe : fstE (tfR R) = fe at *
      repeat' (first | exact rfl | ((conv => whnf); first | (refine qX (fun h => ?_) fun h => ?_ <;> try exact absurd h (by omega)) | refine oN ?_ | refine oM ?_ ?_ | refine bM ?_ ?_ | refine dR ?_))
      (conv => whnf)
      refine callF (check_c ⟨R.st, R.sa, R.fin, R.arcs, R.fin.length + sp, R.arcs.length + sq⟩ hfl) [3, 4] Tryd.call16 rfl (by simp [rdC]) (by simp [rdC]) (by simp) ?_
      rintro _ _ ⟨rfl, rfl⟩
      repeat' (first | exact rfl | ((conv => whnf); first | (refine qX (fun h => ?_) fun h => ?_ <;> try exact absurd h (by omega)) | refine oN ?_ | refine oM ?_ ?_ | refine bM ?_ ?_ | refine dR ?_))
      · rw [hF] at h
        (conv => whnf)
        rw [hF]
        refine ⟨[(1, none), (2, none)], [(0, gloO g), (1, .arr true 3 .int [] 0), (2, .arr true 35 .arc [] 0)], 3, .tup [.agg [.i 0, .i 0, .sl 1 1 0 0 0, .sl 2 5 0 0 0], .c (.i 0), .c (.i fe)], ⟨by rfl, trivial, by simp [gloO, nilO]⟩, by simp, parse_no g (by rw [hp, if_neg h])⟩
      · rw [hF] at h
        rw [if_pos h] at hp
        (conv => whnf)
        refine ⟨[(1, some 3), (2, some 4)], [(0, gloO g), (1, .arr true 3 .int R.fin sp), (2, .arr true 35 .arc R.arcs sq)], 3, .tup [.agg [.i R.st, .i R.sa, .sl 1 1 0 R.fin.length (R.fin.length + sp), .sl 2 5 0 R.arcs.length (R.arcs.length + sq)], .c (.i 0), .c (.i 0)], ⟨by rfl, trivial, by simp [gloO]⟩, by simp, R, sp, sq, by rw [hp]; rfl, by rw [hp], rfl⟩
end Go.Fw

/-
  The reference's Cut.
-/
namespace Go.Fw
open Go Go.Proofs

theorem spl_pre (c : UInt8) : ∀ (p r : List UInt8), (∀ x ∈ p, x ≠ c) → spl c (p ++ c :: r) = p :: spl c r
  | [], r, _ => by rw [List.nil_append, spl_cons, if_pos rfl]
  | x :: p, r, h => by
    rw [List.cons_append, spl_cons, if_neg (h x (by simp)), spl_pre c p r (fun y hy => h y (by simp [hy]))]
theorem spl_one (c : UInt8) : ∀ (p : List UInt8), (∀ x ∈ p, x ≠ c) → spl c p = [p]
  | [], _ => rfl
  | x :: p, h => by rw [spl_cons, if_neg (h x (by simp)), spl_one c p (fun y hy => h y (by simp [hy]))]

/-- Cut as far as i: what is done, and where the piece under way begins. -/
structure CutTo (c : UInt8) (s : List UInt8) (i : Nat) (D : List (List UInt8)) (fr : Nat) : Prop where
  le : fr ≤ i
  is : i ≤ s.length
  eq : spl c s = D ++ spl c (s.drop fr)
  no : ∀ j, fr ≤ j → j < i → s.getD j 0 ≠ c
  len : D.length ≤ i

theorem CutTo.piece {c : UInt8} {s : List UInt8} {i fr : Nat} {D : List (List UInt8)} (h : CutTo c s i D fr) : ∀ x ∈ (s.drop fr).take (i - fr), x ≠ c := by
  intro x hx
  obtain ⟨j, hj⟩ := List.mem_iff_getElem?.1 hx
  have h1 := h.le
  have h2 := h.is
  have hjl : j < i - fr := by
    have := (List.getElem?_eq_some_iff.1 hj).1
    simp only [List.length_take, List.length_drop] at this
    omega
  rw [List.getElem?_take_of_lt hjl, List.getElem?_drop] at hj
  have := h.no (fr + j) (by omega) (by omega)
  rw [List.getD_eq_getElem?_getD, hj] at this
  exact this
theorem CutTo.done {c : UInt8} {s : List UInt8} {fr : Nat} {D : List (List UInt8)} (h : CutTo c s s.length D fr) : spl c s = D ++ [s.drop fr] := by
  have := h.piece
  rw [List.take_of_length_le (by simp)] at this
  rw [h.eq, spl_one c _ this]

end Go.Fw

/-
  The reference's numbers are the program's.
-/
namespace Go.Fw
open Go

def Dig (c : UInt8) : Prop := 48 ≤ c.toNat ∧ c.toNat ≤ 57
/-- What digits spell. -/
def dv : Nat → List UInt8 → Nat
  | acc, [] => acc
  | acc, c :: r => dv (acc * 10 + (c.toNat - 48)) r
theorem dv_snoc (d : UInt8) : ∀ (l : List UInt8) (acc : Nat), dv acc (l ++ [d]) = dv acc l * 10 + (d.toNat - 48)
  | [], _ => rfl
  | c :: l, acc => by
    rw [List.cons_append]
    exact dv_snoc d l _
theorem dv_ge : ∀ (l : List UInt8) (acc : Nat), acc ≤ dv acc l
  | [], _ => Nat.le_refl _
  | c :: l, acc => by
    have := dv_ge l (acc * 10 + (c.toNat - 48))
    show acc ≤ dv (acc * 10 + (c.toNat - 48)) l
    exact Nat.le_trans (by omega) this
theorem dv_lt : ∀ (l : List UInt8) (acc : Nat), (∀ c ∈ l, Dig c) → dv acc l < (acc + 1) * 10 ^ l.length
  | [], acc, _ => by show acc < (acc + 1) * 10 ^ 0; omega
  | c :: l, acc, h => by
    have h1 := dv_lt l (acc * 10 + (c.toNat - 48)) (fun x hx => h x (by simp [hx]))
    have h2 := h c (by simp)
    unfold Dig at h2
    show dv (acc * 10 + (c.toNat - 48)) l < _
    refine Nat.lt_of_lt_of_le h1 ?_
    rw [List.length_cons, Nat.pow_succ, Nat.mul_comm (10 ^ l.length) 10, ← Nat.mul_assoc]
    exact Nat.mul_le_mul_right _ (by omega)
theorem parse_dv : ∀ (l : List UInt8) (acc : Nat), (∀ c ∈ l, Dig c) → dv acc l < 1000000000000000000 → Lib.parseUint10 acc l = .ok (dv acc l)
  | [], _, _, _ => rfl
  | c :: l, acc, h, hlt => by
    have h2 := h c (by simp)
    unfold Dig at h2
    have hlt' : dv (acc * 10 + (c.toNat - 48)) l < 1000000000000000000 := hlt
    have hge := dv_ge l (acc * 10 + (c.toNat - 48))
    simp only [Lib.parseUint10]
    rw [if_pos h2, if_neg (by omega), if_neg (by omega)]
    exact parse_dv l _ (fun x hx => h x (by simp [hx])) hlt'

theorem dec_dig : ∀ (k u : Nat), u < k → (∀ c ∈ Lib.decDigits u, Dig c) ∧ dv 0 (Lib.decDigits u) = u ∧ 1 ≤ (Lib.decDigits u).length
  | 0, u, h => by omega
  | k + 1, u, h => by
    have hd : ∀ i : Nat, i < 10 → (UInt8.ofNat (48 + i)).toNat = 48 + i := fun i hi => by rw [UInt8.toNat_ofNat']; omega
    by_cases h10 : u < 10
    · rw [Lib.decDigits_one h10]
      refine ⟨?_, ?_, by simp⟩
      · intro c hc
        simp only [List.mem_cons, List.not_mem_nil, or_false] at hc
        subst hc
        unfold Dig
        rw [hd u h10]
        omega
      · show 0 * 10 + ((UInt8.ofNat (48 + u)).toNat - 48) = u
        rw [hd u h10]
        omega
    · obtain ⟨h1, h2, h3⟩ := dec_dig k (u / 10) (by omega)
      rw [Lib.decDigits, dif_neg h10]
      refine ⟨?_, ?_, by simp⟩
      · intro c hc
        rcases List.mem_append.1 hc with hc | hc
        · exact h1 c hc
        · simp only [List.mem_cons, List.not_mem_nil, or_false] at hc
          subst hc
          unfold Dig
          rw [hd _ (by omega)]
          omega
      · rw [dv_snoc, h2, hd _ (by omega)]
        omega

instance (x : List UInt8) : Decidable (∀ c ∈ x, Dig c) := by unfold Dig; infer_instance
/-- The number that a word is, as the reference reads it. -/
def undO (x : List UInt8) : Option Int := if 1 ≤ x.length ∧ x.length ≤ 10 ∧ (∀ c ∈ x, Dig c) ∧ Lib.itoa (dv 0 x : Nat) = x then some (dv 0 x : Nat) else none

theorem undO_eq (x : List UInt8) : undO x = numO x := by
  unfold undO
  split
  · rename_i h
    obtain ⟨h1, h2, h3, h4⟩ := h
    have hlt := dv_lt x 0 h3
    have hp : 10 ^ x.length ≤ 10 ^ 10 := Nat.pow_le_pow_right (by omega) h2
    have hok : Lib.atoiAll x = .ok (dv 0 x : Nat) := by
      have hpm : Lib.parseMag x = .ok (dv 0 x) := by
        unfold Lib.parseMag
        rw [if_neg (fun e => by rw [e] at h1; simp at h1)]
        exact parse_dv x 0 h3 (by omega)
      cases x with
      | nil => simp at h1
      | cons c r =>
        have hc := h3 c (by simp)
        unfold Dig at hc
        unfold Lib.atoiAll
        simp only
        rw [if_neg (by omega), hpm]
        simp only
        rw [if_neg (by omega), if_neg (by omega), if_neg (by omega)]
    unfold numO
    rw [hok]
    simp only
    rw [if_pos ⟨h2, by omega, h4⟩]
  · rename_i h
    unfold numO
    split
    · rename_i n hn
      split
      · rename_i hc
        obtain ⟨c1, c2, c3⟩ := hc
        exfalso
        apply h
        obtain ⟨m, rfl⟩ : ∃ m : Nat, n = m := ⟨n.toNat, by omega⟩
        rw [Lib.itoa_nonneg] at c3
        obtain ⟨d1, d2, d3⟩ := dec_dig (m + 1) m (by omega)
        rw [c3] at d1 d2 d3
        exact ⟨d3, c1, d1, by rw [d2, Lib.itoa_nonneg]; exact c3⟩
      · rfl
    · rfl
end Go.Fw

/-
  The reference's Undigits.
-/
namespace Go.Fw
open Go Go.Proofs

/-- What Undigits answers. -/
def UndPost (l : List (List UInt8)) (many : Int) (v : SV) (s : S) : Prop :=
  (∃ ns sp, numsO l = some ns ∧ (l.length : Int) = many ∧ v = .tup [.c (.sl 1 1 0 ns.length (ns.length + sp)), .c (.b true)] ∧ s = ⟨[], [(1, .arr true 3 .int ns sp)], 2⟩) ∨
  ((numsO l = none ∨ (l.length : Int) ≠ many) ∧ v = .tup [.c (.v (.slice none 0 0)), .c (.b false)] ∧ s = ⟨[], [], 1⟩)

end Go.Fw

/-
  The reference's PrintFst.
-/
namespace Go.Fw
open Go Go.Proofs

theorem lnF_final (i w : Int) : lnF tFinal [i, w] = tFinal ++ [32] ++ Lib.itoa i ++ [32] ++ Lib.itoa w ++ [10] := by
  simp [lnF, lnK, gapL, tFinal]
theorem lnF_arc (a b c d e : Int) : lnF [] [a, b, c, d, e] = Lib.itoa a ++ [32] ++ Lib.itoa b ++ [32] ++ Lib.itoa c ++ [32] ++ Lib.itoa d ++ [32] ++ Lib.itoa e ++ [10] := by
  simp [lnF, lnK, gapL]

end Go.Fw

/-
  The reference's ReadFst.
-/
namespace Go.Fw
open Go Go.Proofs

instance {a b : Int} : CB (!(a == b)) (a ≠ b) (a = b) := ⟨fun h => by simpa using h, fun h => by simpa using h⟩

def ReadPost (o : Option RV × Int × Int) (v : SV) (s : S) : Prop := ∃ R sp sq, R = o.1.getD zeroR ∧ v = .tup [.agg [.i R.st, .i R.sa, .sl 0 1 0 R.fin.length (R.fin.length + sp), .sl 1 5 0 R.arcs.length (R.arcs.length + sq)], .c (.i o.2.1), .c (.i o.2.2)] ∧
  s = ⟨[], [(0, .arr true 3 .int R.fin sp), (1, .arr true 35 .arc R.arcs sq)], 2⟩
/-- Read as far as line i. -/
structure LnOk (L : List (List UInt8)) (i : Nat) (R : RV) (res : Sum RV Nat) : Prop where
  le : i < L.length
  zero : i = 0 → R = ⟨0, 0, [], [], -1⟩
  fin : i ≠ 0 → (R.fin.length : Int) = R.st
  flen : R.fin.length ≤ 1000
  cnt : R.arcs.length ≤ i
  run : runL (i + 1) R (L.drop i) = res

theorem LnOk.drop {L : List (List UInt8)} {i : Nat} (hi : i < L.length) : L.drop i = L.getD i [] :: L.drop (i + 1) := by
  rw [List.drop_eq_getElem_cons hi, List.getD_eq_getElem?_getD, List.getElem?_eq_getElem hi]
  rfl
theorem LnOk.bad {L : List (List UInt8)} {i : Nat} {R : RV} {res : Sum RV Nat} (h : LnOk L i R res) (hn : i ≠ L.length - 1 ∨ i = 0 ∨ L.getD i [] ≠ []) (hb : i = L.length - 1 ∨ takeF (i + 1) R (spl 32 (L.getD i [])) = none) : res = .inr (i + 1) := by
  have hi := h.le
  rw [← h.run, LnOk.drop hi]
  by_cases he : i = L.length - 1
  · rw [List.drop_eq_nil_of_le (by omega)]
    unfold runL
    rw [if_neg]
    rintro ⟨h1, h2⟩
    rcases hn with hn | hn | hn
    · exact hn he
    · omega
    · exact hn h2
  · rw [LnOk.drop (i := i + 1) (by omega)]
    rcases hb with hb | hb
    · exact absurd hb he
    · unfold runL
      rw [hb]
theorem LnOk.next {L : List (List UInt8)} {i : Nat} {R R' : RV} {res : Sum RV Nat} (h : LnOk L i R res) (he : i ≠ L.length - 1) (ht : takeF (i + 1) R (spl 32 (L.getD i [])) = some R') : LnOk L (i + 1) R' res := by
  have hi := h.le
  have hr : runL (i + 1 + 1) R' (L.drop (i + 1)) = res := by
    rw [← h.run, LnOk.drop hi, LnOk.drop (i := i + 1) (by omega)]
    conv => rhs; unfold runL
    rw [ht]
  have h2 := h.cnt
  have h4 := h.flen
  generalize hl : spl 32 (L.getD i []) = l at ht
  refine ⟨by omega, fun c => by omega, fun _ => ?_, ?_, ?_, hr⟩
  all_goals
    unfold takeF at ht
    split at ht
    · unfold headF at ht
      split at ht
      · cases hn : numsO [l.getD 1 [], l.getD 3 []] with
        | none => rw [hn] at ht; cases ht
        | some ns =>
          rw [hn] at ht
          simp only [Option.bind_some] at ht
          split at ht
          · cases ht
            first
            | (simp only [List.length_replicate]; omega)
            | (simp only [List.length_nil]; omega)
          · cases ht
      · cases ht
    · rename_i hn1
      have hf := h.fin (by omega)
      split at ht
      · unfold finF at ht
        split at ht
        · cases hn : numsO (l.drop 1) with
          | none => rw [hn] at ht; cases ht
          | some ns =>
            rw [hn] at ht
            simp only [Option.bind_some] at ht
            split at ht
            · cases ht
              first
              | (simp only [List.length_set]; omega)
              | (simp only; omega)
            · cases ht
        · cases ht
      · unfold arcF at ht
        split at ht
        · cases hn : numsO l with
          | none => rw [hn] at ht; cases ht
          | some ns =>
            rw [hn] at ht
            cases ht
            first
            | (simp only [List.length_append, List.length_cons, List.length_nil]; omega)
            | (simp only; omega)
        · cases ht

end Go.Fw

/-
  What is printed is parsed as it was, and nothing else is: the plain law.
-/
namespace Go.Fw
open Go

/-- Pieces with a sign between. -/
def jn (c : UInt8) : List (List UInt8) → List UInt8
  | [] => []
  | [x] => x
  | x :: y :: r => x ++ c :: jn c (y :: r)
theorem jn_cons (c : UInt8) (x : List UInt8) {l : List (List UInt8)} (h : l ≠ []) : jn c (x :: l) = x ++ c :: jn c l := by
  cases l with
  | nil => exact absurd rfl h
  | cons y r => rfl
theorem jn_snoc (c : UInt8) (x : List UInt8) : ∀ l : List (List UInt8), l ≠ [] → jn c (l ++ [x]) = jn c l ++ [c] ++ x
  | [], h => absurd rfl h
  | [y], _ => by simp [jn]
  | y :: z :: r, _ => by
    rw [List.cons_append, jn_cons c y (by simp), jn_snoc c x (z :: r) (by simp), jn_cons c y (by simp)]
    simp
theorem spl_jn (c : UInt8) : ∀ l : List (List UInt8), l ≠ [] → (∀ x ∈ l, ∀ y ∈ x, y ≠ c) → spl c (jn c l) = l
  | [], h, _ => absurd rfl h
  | [x], _, h => spl_one c x (h x (by simp))
  | x :: y :: r, _, h => by
    rw [jn_cons c x (by simp), spl_pre c x _ (h x (by simp)), spl_jn c (y :: r) (by simp) (fun z hz => h z (by simp [hz]))]

/-- Lines, each with its end. -/
def uls (l : List (List UInt8)) : List UInt8 := l.flatMap (· ++ [10])
theorem uls_app (a b : List (List UInt8)) : uls (a ++ b) = uls a ++ uls b := by unfold uls; rw [List.flatMap_append]
theorem uls_one (a : List UInt8) : uls [a] = a ++ [10] := by simp [uls]
theorem jn_uls : ∀ l : List (List UInt8), jn 10 (l ++ [[]]) = uls l
  | [] => rfl
  | x :: l => by
    rw [List.cons_append, jn_cons 10 x (by simp), jn_uls l]
    simp [uls]
theorem spl_uls (l : List (List UInt8)) (h : ∀ x ∈ l, ∀ y ∈ x, y ≠ 10) : spl 10 (uls l) = l ++ [[]] := by
  rw [← jn_uls]
  refine spl_jn 10 _ (by simp) (fun x hx => ?_)
  rcases List.mem_append.1 hx with hx | hx
  · exact h x hx
  · simp only [List.mem_cons, List.not_mem_nil, or_false] at hx
    subst hx
    simp
/-- A line's words. -/
def lw (word : List UInt8) (ns : List Int) : List (List UInt8) := (if word = [] then [] else [word]) ++ ns.map Lib.itoa
theorem lnK_jn (word : List UInt8) (ns : List Int) : ∀ k : Nat, k ≤ ns.length → lnK word ns k = jn 32 (lw word (ns.take k))
  | 0, _ => by
    unfold lw lnK
    split
    · rename_i h; rw [h]; rfl
    · rfl
  | k + 1, hk => by
    have ih := lnK_jn word ns k (by omega)
    have e : lw word (ns.take (k + 1)) = lw word (ns.take k) ++ [Lib.itoa (ns.getD k 0)] := by
      unfold lw
      rw [List.take_add_one, List.map_append, ← List.append_assoc]
      congr 1
      rw [List.getElem?_eq_getElem (by omega), List.getD_eq_getElem?_getD, List.getElem?_eq_getElem (by omega)]
      rfl
    rw [e]
    show lnK word ns k ++ gapL word k ++ _ = _
    rw [ih]
    unfold gapL
    split
    · rename_i h
      rw [jn_snoc]
      unfold lw
      intro hc
      obtain ⟨h1, h2⟩ := List.append_eq_nil_iff.1 hc
      rcases h with h | h
      · have := congrArg List.length h2
        simp only [List.length_map, List.length_take, List.length_nil] at this
        omega
      · rw [if_neg h] at h1; cases h1
    · rename_i h
      have hk0 : k = 0 := by omega
      have hw : word = [] := Classical.byContradiction fun c => h (.inr c)
      subst hk0 hw
      simp [lw, jn]
theorem lnF_jn (word : List UInt8) (ns : List Int) : lnF word ns = jn 32 (lw word ns) ++ [10] := by
  unfold lnF
  rw [lnK_jn word ns _ (Nat.le_refl _), List.take_length]

theorem itoa_dig {n : Int} (h : 0 ≤ n) : ∀ c ∈ Lib.itoa n, Dig c := by
  obtain ⟨m, rfl⟩ : ∃ m : Nat, n = m := ⟨n.toNat, by omega⟩
  rw [Lib.itoa_nonneg]
  exact (dec_dig (m + 1) m (by omega)).1
theorem itoa_no {n : Int} (h : 0 ≤ n) (c : UInt8) (hc : c.toNat < 48) : ∀ y ∈ Lib.itoa n, y ≠ c := by
  intro y hy e
  have := itoa_dig h y hy
  unfold Dig at this
  rw [e] at this
  omega
theorem dec_len : ∀ (k u : Nat), u < 10 ^ (k + 1) → (Lib.decDigits u).length ≤ k + 1
  | 0, u, h => by rw [Lib.decDigits_one (by omega)]; simp
  | k + 1, u, h => by
    by_cases h10 : u < 10
    · rw [Lib.decDigits_one h10]; simp
    · have := dec_len k (u / 10) (by rw [Nat.pow_succ] at h; omega)
      rw [Lib.decDigits, dif_neg h10, List.length_append]
      simp only [List.length_cons, List.length_nil]
      omega
theorem numO_itoa {n : Int} (h0 : 0 ≤ n) (h1 : n < 10000000000) : numO (Lib.itoa n) = some n := by
  rw [← undO_eq]
  obtain ⟨m, rfl⟩ : ∃ m : Nat, n = m := ⟨n.toNat, by omega⟩
  obtain ⟨d1, d2, d3⟩ := dec_dig (m + 1) m (by omega)
  have d4 := dec_len 9 m (by omega)
  unfold undO
  rw [Lib.itoa_nonneg, if_pos ⟨d3, by omega, d1, by rw [d2, Lib.itoa_nonneg]⟩, d2]
theorem numsO_itoa : ∀ {ns : List Int}, (∀ n ∈ ns, 0 ≤ n ∧ n < 10000000000) → numsO (ns.map Lib.itoa) = some ns
  | [], _ => rfl
  | n :: ns, h => by
    have h1 := h n (by simp)
    rw [List.map_cons, numsO_cons, numO_itoa h1.1 h1.2, numsO_itoa (fun m hm => h m (by simp [hm]))]
/-- The lines of what is printed. -/
def finL : Nat → List Int → List (List UInt8)
  | _, [] => []
  | k, w :: ws => (if w ≠ -1 then [jn 32 (lw tFinal [(k : Int), w])] else []) ++ finL (k + 1) ws
def arcLn (a : Arc) : List UInt8 := jn 32 (lw [] (arcL a))
def headLn (st sa : Int) : List UInt8 := jn 32 [wStates, Lib.itoa st, wStart, Lib.itoa sa]
theorem finL_snoc (w : Int) : ∀ (k : Nat) (l : List Int), finL k (l ++ [w]) = finL k l ++ (if w ≠ -1 then [jn 32 (lw tFinal [((k + l.length : Nat) : Int), w])] else [])
  | k, [] => by simp [finL]
  | k, x :: l => by
    rw [List.cons_append]
    unfold finL
    rw [finL_snoc w (k + 1) l, List.append_assoc, List.length_cons, show k + 1 + l.length = k + (l.length + 1) by omega]
theorem finsK_uls (fin : List Int) : ∀ k : Nat, k ≤ fin.length → finsK fin k = uls (finL 0 (fin.take k))
  | 0, _ => by simp [finsK, finL, uls]
  | k + 1, hk => by
    have ih := finsK_uls fin k (by omega)
    have e : fin.take (k + 1) = fin.take k ++ [fin.getD k 0] := by
      rw [List.take_add_one, List.getElem?_eq_getElem (by omega), List.getD_eq_getElem?_getD, List.getElem?_eq_getElem (by omega)]
      rfl
    rw [e, finL_snoc, uls_app, ← ih]
    show finsK fin k ++ (if fin.getD k 0 ≠ -1 then lnF tFinal [(k : Int), fin.getD k 0] else []) = _
    rw [List.length_take, show min k fin.length = k by omega, Nat.zero_add]
    split
    · rw [uls_one, lnF_jn]
    · rfl
theorem arcsK_uls (arcs : List Arc) : ∀ k : Nat, k ≤ arcs.length → arcsK arcs k = uls ((arcs.take k).map arcLn)
  | 0, _ => by simp [arcsK, uls]
  | k + 1, hk => by
    have ih := arcsK_uls arcs k (by omega)
    have e : arcs.take (k + 1) = arcs.take k ++ [arcs.getD k aD] := by
      rw [List.take_add_one, List.getElem?_eq_getElem (by omega), List.getD_eq_getElem?_getD, List.getElem?_eq_getElem (by omega)]
      rfl
    rw [e, List.map_append, uls_app, ← ih]
    show arcsK arcs k ++ lnF [] (arcL (arcs.getD k aD)) = _
    rw [lnF_jn]
    simp [uls, arcLn]
def prL (st sa : Int) (fin : List Int) (arcs : List Arc) : List (List UInt8) := headLn st sa :: (finL 0 fin ++ arcs.map arcLn)
theorem prF_uls (F : TF) : prF F = uls (prL F.st F.start F.fin F.arcs) := by
  unfold prF prL
  rw [finsK_uls _ _ (Nat.le_refl _), arcsK_uls _ _ (Nat.le_refl _), List.take_length, List.take_length]
  have : ∀ (a : List UInt8) (l : List (List UInt8)), uls (a :: l) = a ++ [10] ++ uls l := fun a l => by simp [uls]
  rw [this, uls_app, ← List.append_assoc]
  congr 2
  simp [hdL, headLn, jn, tStates, tStart, wStates, wStart]
end Go.Fw
