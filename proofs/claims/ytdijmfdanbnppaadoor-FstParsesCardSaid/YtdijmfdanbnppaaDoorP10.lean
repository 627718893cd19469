/-
  The reference's Undigits.
-/
import Derived.Test.YtdijmfdanbnppaaDoorP09
import Derived.Test.YtdijmfdanbnppaaDoorP08
import Derived.Test.YtdijmfdanbnppaaDoorP06

set_option linter.unusedSimpArgs false
set_option linter.unusedVariables false

namespace Go.Fw
open Go Go.Proofs

/-- What Undigits answers. -/
def UndPost (l : List (List UInt8)) (many : Int) (v : SV) (s : S) : Prop :=
  (∃ ns sp, numsO l = some ns ∧ (l.length : Int) = many ∧ v = .tup [.c (.sl 1 1 0 ns.length (ns.length + sp)), .c (.b true)] ∧ s = ⟨[], [(1, .arr true 3 .int ns sp)], 2⟩) ∨
  ((numsO l = none ∨ (l.length : Int) ≠ many) ∧ v = .tup [.c (.v (.slice none 0 0)), .c (.b false)] ∧ s = ⟨[], [], 1⟩)

theorem dv_nil : dv 0 [] = 0 := rfl
theorem dv_take (x : List UInt8) (k : Nat) (hk : k < x.length) : dv 0 (x.take (k + 1)) = dv 0 (x.take k) * 10 + ((x.getD k 0).toNat - 48) := by
  rw [List.take_add_one, List.getElem?_eq_getElem hk, List.getD_eq_getElem?_getD, List.getElem?_eq_getElem hk]
  exact dv_snoc _ _ _

set_option maxHeartbeats 16000000 in
set_option maxRecDepth 20000 in
theorem undigits_c (LL : List (List UInt8)) (lo len cap : Nat) (many : Int) (hlo : lo + len ≤ LL.length) (hm : 0 < many) (hL : LL.length ≤ 1000000) :
    Ct Tryd.prog 44 [.c (.sl 0 1 lo len cap), .i many] [] [(0, .arr false 9 .str (LL.map bs) 0)] 1 (UndPost ((LL.drop lo).take len) many) := by
  have hll : ((LL.drop lo).take len).length = len := by simp; omega
  have hLd : ∀ i : Nat, (LL.map bs).getD i EK.str.dflt = bs (LL.getD i []) := mapbs_getD LL
  have hLl : (LL.map bs).length = LL.length := by simp
  generalize hLs : LL.map bs = Ls at *
  refine ctW Tryd.tyOk 10 [] Tryd.func44 rfl (by simp) (by simp) (fr := [(0, .c (.sl 0 1 lo len cap)), (1, .i many)]) rfl ?_
  repeat' (first | exact rfl | ((conv => whnf); first | (refine qX (fun h => ?_) fun h => ?_ <;> try exact absurd h (by omega)) | refine oN ?_ | refine oM ?_ ?_ | refine bM ?_ ?_ | refine dR ?_))
  · (conv => whnf)
    exact ⟨[], [], 1, .tup [.c (.v (.slice none 0 0)), .c (.b false)], ⟨by rfl, trivial, trivial⟩, by simp, .inr ⟨.inr (by rw [hll]; exact h), rfl, rfl⟩⟩
  (conv => whnf)
  refine loopI (fun z : Nat × List Int × Nat => ⟨[(0, .c (.sl 0 1 lo len cap)), (6, .c (.sl 1 1 0 z.2.1.length (z.2.1.length + z.2.2))), (7, .i z.1)], [(0, .arr false 9 .str Ls 0), (1, .arr true 3 .int z.2.1 z.2.2)], 2⟩)
    (fun z => z.1 ≤ len ∧ numsO ((LL.drop lo).take z.1) = some z.2.1) (fun z => len - z.1) (0, [], 0) [(1, none)] ⟨by rfl, ?_, ?_⟩ ⟨Nat.zero_le _, by simp [numsO]⟩ ?_
  · simp
  · simp [nilO]
  · rintro ⟨i, ns, sp⟩ ⟨hi, hns⟩
    simp only at hi hns ⊢
    (conv => whnf)
    refine condP_dec (fun hk2 => ?_) (fun hk2 => ?_)
    · have hv : Ls.getD (lo + (i : Int).toNat) EK.str.dflt = bs (LL.getD (lo + i) []) := by rw [show lo + (i : Int).toNat = lo + i by omega, hLd]
      have hnl := numsO_len hns
      have hxm : LL.getD (lo + i) [] ∈ (LL.drop lo).take len := by
        rw [List.mem_iff_getElem?]
        refine ⟨i, ?_⟩
        rw [List.getElem?_take_of_lt (by omega), List.getElem?_drop, List.getD_eq_getElem?_getD, List.getElem?_eq_getElem (by omega)]
        rfl
      have hsn : (LL.drop lo).take (i + 1) = (LL.drop lo).take i ++ [LL.getD (lo + i) []] := by
        rw [List.take_add_one, List.getElem?_drop, List.getD_eq_getElem?_getD, List.getElem?_eq_getElem (by omega)]
        rfl
      have hkl : ((LL.drop lo).take i).length = i := by simp; omega
      generalize hx : LL.getD (lo + i) [] = x at *
      have bad : undO x = none → numsO ((LL.drop lo).take len) = none := fun h => numsO_bad (by rw [← undO_eq]; exact h) _ hxm
      have hbx := bs_size x
      have hb : ∀ j : Nat, byteA (bs x) j = ((x.getD j 0).toNat : Nat) := byteA_bs x
      have hbx' : (Ls.getD (lo + (i : Int).toNat) EK.str.dflt).size = x.length := by rw [hv, hbx]
      repeat' (first | exact rfl | ((conv => whnf); first | (refine qX (fun h => ?_) fun h => ?_ <;> try exact absurd h (by omega)) | refine oN ?_ | refine oM ?_ ?_ | refine bM ?_ ?_ | refine dR ?_))
      (conv => whnf)
      refine cI (between_c ((Ls.getD (lo + (i : Int).toNat) EK.str.dflt).size : Nat) 1 10) [] Tryd.call30 ?_
      repeat' (first | exact rfl | ((conv => whnf); first | (refine qX (fun h => ?_) fun h => ?_ <;> try exact absurd h (by omega)) | refine oN ?_ | refine oM ?_ ?_ | refine bM ?_ ?_ | refine dR ?_))
      · (conv => whnf)
        exact ⟨[], [], 1, .tup [.c (.v (.slice none 0 0)), .c (.b false)], ⟨by rfl, trivial, trivial⟩, by simp, .inr ⟨.inl (bad (by unfold undO; rw [if_neg (fun c => h (by omega))])), rfl, rfl⟩⟩
      have hl10 : 1 ≤ x.length ∧ x.length ≤ 10 := by omega
      (conv => whnf)
      refine loopI (fun k : Nat => ⟨[(0, .c (.sl 0 1 lo len cap)), (6, .c (.sl 1 1 0 ns.length (ns.length + sp))), (7, .i i), (8, .i (dv 0 (x.take k) : Nat)), (9, .i k)], [(0, .arr false 9 .str Ls 0), (1, .arr true 3 .int ns sp)], 2⟩)
        (fun k => k ≤ x.length ∧ ∀ c ∈ x.take k, Dig c) (fun k => x.length - k) 0 [] ⟨by rfl, ?_, ?_⟩ ⟨Nat.zero_le _, by simp⟩ ?_
      · simp [dv_nil]
      · simp
      · rintro k ⟨hk, hdig⟩
        have hbk : byteA (Ls.getD (lo + (i : Int).toNat) EK.str.dflt) (k : Int).toNat = ((x.getD k 0).toNat : Nat) := by rw [hv, hb, Int.toNat_natCast]
        have h255 := UInt8.toNat_lt (x.getD k 0)
        have hdl := dv_lt (x.take k) 0 hdig
        have hp : 10 ^ (x.take k).length ≤ 10 ^ 10 := Nat.pow_le_pow_right (by omega) (by rw [List.length_take]; omega)
        have hdn : (dv 0 (x.take k) : Nat) ≤ 10000000000 := by omega
        clear hdl hp
        have hdt : k < x.length → dv 0 (x.take (k + 1)) = dv 0 (x.take k) * 10 + ((x.getD k 0).toNat - 48) := dv_take x k
        have hkx : k = x.length → dv 0 (x.take k) = dv 0 x := fun e => by rw [e, List.take_length]
        generalize hdd : dv 0 (x.take k) = d at *
        repeat' (first | exact rfl | ((conv => whnf); first | (refine qX (fun h => ?_) fun h => ?_ <;> try exact absurd h (by omega)) | refine oN ?_ | refine oM ?_ ?_ | refine bM ?_ ?_ | refine dR ?_))
        · have hmem := getD_mem x k 0 (by omega)
          (conv => whnf)
          exact ⟨[], [], 1, .tup [.c (.v (.slice none 0 0)), .c (.b false)], ⟨by rfl, trivial, trivial⟩, by simp, .inr ⟨.inl (bad (by unfold undO; exact if_neg (fun c => by have := c.2.2.1 _ hmem; unfold Dig at this; omega))), rfl, rfl⟩⟩
        · have hmem := getD_mem x k 0 (by omega)
          (conv => whnf)
          exact ⟨[], [], 1, .tup [.c (.v (.slice none 0 0)), .c (.b false)], ⟨by rfl, trivial, trivial⟩, by simp, .inr ⟨.inl (bad (by unfold undO; exact if_neg (fun c => by have := c.2.2.1 _ hmem; unfold Dig at this; omega))), rfl, rfl⟩⟩
        · rename_i hlt h48
          have hdt := hdt (by omega)
          have hdt2 : ((dv 0 (x.take (k + 1)) : Nat) : Int) = 10 * (d : Nat) + byteA (Ls.getD (lo + (i : Int).toNat) EK.str.dflt) (k : Int).toNat - 48 := by rw [hdt]; omega
          (conv => whnf)
          refine ⟨k + 1, [], ⟨by rfl, ?_, ?_⟩, ⟨by omega, fun c hc => ?_⟩, by omega⟩
          · simp [hdt2]
          · simp
          · rw [List.take_add_one, List.getElem?_eq_getElem (by omega)] at hc
            rcases List.mem_append.1 hc with hc | hc
            · exact hdig c hc
            · simp only [Option.toList_some, List.mem_cons, List.not_mem_nil, or_false] at hc
              have hxk : x.getD k 0 = x[k]'(by omega) := by rw [List.getD_eq_getElem?_getD, List.getElem?_eq_getElem (by omega)]; rfl
              rw [hc, ← hxk]
              unfold Dig
              omega
        · have e : k = x.length := by omega
          subst e
          rw [List.take_length] at hdig
          have hkx := hkx rfl
          have hund : undO x = if Lib.itoa (d : Nat) = x then some ((d : Nat) : Int) else none := by
            unfold undO
            rw [← hkx]
            by_cases c : Lib.itoa (d : Nat) = x
            · rw [if_pos c, if_pos ⟨hl10.1, hl10.2, hdig, c⟩]
            · rw [if_neg c, if_neg (fun d => c d.2.2.2)]
          (conv => whnf)
          refine cI (digits_c (d + 1) (d : Nat) (by omega) (by omega) (by omega)) [] Tryd.call32 ?_
          repeat' (first | exact rfl | ((conv => whnf); first | (refine qX (fun h => ?_) fun h => ?_ <;> try exact absurd h (by omega)) | refine oN ?_ | refine oM ?_ ?_ | refine bM ?_ ?_ | refine dR ?_))
          · rw [hv, bs_data, bs_data] at h
            (conv => whnf)
            exact ⟨[], [], 1, .tup [.c (.v (.slice none 0 0)), .c (.b false)], ⟨by rfl, trivial, trivial⟩, by simp, .inr ⟨.inl (bad (by rw [hund, if_neg h])), rfl, rfl⟩⟩
          · rw [hv, bs_data, bs_data] at h
            rw [if_pos h] at hund
            intro sp2
            repeat' (first | exact rfl | ((conv => whnf); first | (refine qX (fun h => ?_) fun h => ?_ <;> try exact absurd h (by omega)) | refine oN ?_ | refine oM ?_ ?_ | refine bM ?_ ?_ | refine dR ?_))
            (conv => whnf)
            simp only [Nat.reduceAdd, Nat.reduceSub]
            refine ⟨(i + 1, ns ++ [((d : Nat) : Int)], sp2), [(1, some 3)], ⟨by rfl, ?_, ?_⟩, ⟨by simp only; omega, ?_⟩, by simp only; omega⟩
            · simp [List.length_append]
            · simp [lOp.appL, sub]
            · simp only
              rw [hsn, numsO_snoc, hns, ← undO_eq, hund]
    · have e : i = len := by omega
      subst e
      repeat' (first | exact rfl | ((conv => whnf); first | (refine qX (fun h => ?_) fun h => ?_ <;> try exact absurd h (by omega)) | refine oN ?_ | refine oM ?_ ?_ | refine bM ?_ ?_ | refine dR ?_))
      (conv => whnf)
      exact ⟨[], [(1, .arr true 3 .int ns sp)], 2, .tup [.c (.sl 1 1 0 ns.length (ns.length + sp)), .c (.b true)], ⟨by rfl, trivial, by simp⟩, by simp, .inl ⟨ns, sp, hns, by rw [hll]; exact h, rfl, rfl⟩⟩
end Go.Fw

/-
  The reference's PrintFst.
-/
namespace Go.Fw
open Go Go.Proofs

theorem lnF_final (i w : Int) : lnF tFinal [i, w] = tFinal ++ [32] ++ Lib.itoa i ++ [32] ++ Lib.itoa w ++ [10] := by
  simp [lnF, lnK, gapL, tFinal]
theorem lnF_arc (a b c d e : Int) : lnF [] [a, b, c, d, e] = Lib.itoa a ++ [32] ++ Lib.itoa b ++ [32] ++ Lib.itoa c ++ [32] ++ Lib.itoa d ++ [32] ++ Lib.itoa e ++ [10] := by
  simp [lnF, lnK, gapL]

end Go.Fw

/-
  The reference's ReadFst.
-/
namespace Go.Fw
open Go Go.Proofs

theorem runL_first (R : RV) : ∀ L : List (List UInt8), runL 1 R L = runL 1 zeroR L
  | [] => rfl
  | [x] => by
    unfold runL
    rw [if_neg (fun c => c.1 rfl), if_neg (fun c => c.1 rfl)]
  | x :: y :: r => by
    have h : takeF 1 R (spl 32 x) = takeF 1 zeroR (spl 32 x) := by unfold takeF; rw [if_pos rfl, if_pos rfl]
    unfold runL
    rw [h]

instance {a b : Int} : CB (!(a == b)) (a ≠ b) (a = b) := ⟨fun h => by simpa using h, fun h => by simpa using h⟩

def ReadPost (o : Option RV × Int × Int) (v : SV) (s : S) : Prop := ∃ R sp sq, R = o.1.getD zeroR ∧ v = .tup [.agg [.i R.st, .i R.sa, .sl 0 1 0 R.fin.length (R.fin.length + sp), .sl 1 5 0 R.arcs.length (R.arcs.length + sq)], .c (.i o.2.1), .c (.i o.2.2)] ∧
  s = ⟨[], [(0, .arr true 3 .int R.fin sp), (1, .arr true 35 .arc R.arcs sq)], 2⟩
theorem read_no {o : Option RV × Int × Int} {n e : Int} (h : o = (none, n, e)) : ReadPost o (.tup [.agg [.i 0, .i 0, .sl 0 1 0 0 0, .sl 1 5 0 0 0], .c (.i n), .c (.i e)]) ⟨[], [(0, .arr true 3 .int [] 0), (1, .arr true 35 .arc [] 0)], 2⟩ := by
  subst h
  exact ⟨zeroR, 0, 0, rfl, rfl, rfl⟩

/-- Read as far as line i. -/
structure LnOk (L : List (List UInt8)) (i : Nat) (R : RV) (res : Sum RV Nat) : Prop where
  le : i < L.length
  zero : i = 0 → R = ⟨0, 0, [], [], -1⟩
  fin : i ≠ 0 → (R.fin.length : Int) = R.st
  flen : R.fin.length ≤ 1000
  cnt : R.arcs.length ≤ i
  run : runL (i + 1) R (L.drop i) = res

theorem LnOk.drop {L : List (List UInt8)} {i : Nat} (hi : i < L.length) : L.drop i = L.getD i [] :: L.drop (i + 1) := by
  rw [List.drop_eq_getElem_cons hi, List.getD_eq_getElem?_getD, List.getElem?_eq_getElem hi]
  rfl
theorem LnOk.stop {L : List (List UInt8)} {i : Nat} {R : RV} {res : Sum RV Nat} (h : LnOk L i R res) (he : i = L.length - 1) (hx : i ≠ 0) (hn : L.getD i [] = []) : res = .inl R := by
  have hi := h.le
  rw [← h.run, LnOk.drop hi, List.drop_eq_nil_of_le (by omega), hn]
  unfold runL
  rw [if_pos ⟨by omega, rfl⟩]
theorem LnOk.bad {L : List (List UInt8)} {i : Nat} {R : RV} {res : Sum RV Nat} (h : LnOk L i R res) (hn : i ≠ L.length - 1 ∨ i = 0 ∨ L.getD i [] ≠ []) (hb : i = L.length - 1 ∨ takeF (i + 1) R (spl 32 (L.getD i [])) = none) : res = .inr (i + 1) := by
  have hi := h.le
  rw [← h.run, LnOk.drop hi]
  by_cases he : i = L.length - 1
  · rw [List.drop_eq_nil_of_le (by omega)]
    unfold runL
    rw [if_neg]
    rintro ⟨h1, h2⟩
    rcases hn with hn | hn | hn
    · exact hn he
    · omega
    · exact hn h2
  · rw [LnOk.drop (i := i + 1) (by omega)]
    rcases hb with hb | hb
    · exact absurd hb he
    · unfold runL
      rw [hb]
theorem LnOk.next {L : List (List UInt8)} {i : Nat} {R R' : RV} {res : Sum RV Nat} (h : LnOk L i R res) (he : i ≠ L.length - 1) (ht : takeF (i + 1) R (spl 32 (L.getD i [])) = some R') : LnOk L (i + 1) R' res := by
  have hi := h.le
  have hr : runL (i + 1 + 1) R' (L.drop (i + 1)) = res := by
    rw [← h.run, LnOk.drop hi, LnOk.drop (i := i + 1) (by omega)]
    conv => rhs; unfold runL
    rw [ht]
  have h2 := h.cnt
  have h4 := h.flen
  generalize hl : spl 32 (L.getD i []) = l at ht
  refine ⟨by omega, fun c => by omega, fun _ => ?_, ?_, ?_, hr⟩
  all_goals
    unfold takeF at ht
    split at ht
    · unfold headF at ht
      split at ht
      · cases hn : numsO [l.getD 1 [], l.getD 3 []] with
        | none => rw [hn] at ht; cases ht
        | some ns =>
          rw [hn] at ht
          simp only [Option.bind_some] at ht
          split at ht
          · cases ht
            first
            | (simp only [List.length_replicate]; omega)
            | (simp only [List.length_nil]; omega)
          · cases ht
      · cases ht
    · rename_i hn1
      have hf := h.fin (by omega)
      split at ht
      · unfold finF at ht
        split at ht
        · cases hn : numsO (l.drop 1) with
          | none => rw [hn] at ht; cases ht
          | some ns =>
            rw [hn] at ht
            simp only [Option.bind_some] at ht
            split at ht
            · cases ht
              first
              | (simp only [List.length_set]; omega)
              | (simp only; omega)
            · cases ht
        · cases ht
      · unfold arcF at ht
        split at ht
        · cases hn : numsO l with
          | none => rw [hn] at ht; cases ht
          | some ns =>
            rw [hn] at ht
            cases ht
            first
            | (simp only [List.length_append, List.length_cons, List.length_nil]; omega)
            | (simp only; omega)
        · cases ht

theorem parseF_run {s : List UInt8} (hs : ¬ 100000 < s.length) {res : Sum RV Nat} (h : runL 1 zeroR (spl 10 s) = res) : (∀ n, res = .inr n → parseF s = (none, (n : Int), 1)) ∧ ∀ R, res = .inl R → parseF s = if fstE (tfR R) = 0 then (some R, 0, 0) else (none, 0, fstE (tfR R)) := by
  refine ⟨fun n e => ?_, fun R e => ?_⟩ <;> subst h <;> unfold parseF <;> rw [if_neg hs, e]
end Go.Fw

/-
  The reference's ReadFst.
-/
namespace Go.Fw
open Go Go.Proofs

def rC (R : RV) (i j sp sq : Nat) : List SC := [.i R.st, .i R.sa, .sl i 1 0 R.fin.length (R.fin.length + sp), .sl j 5 0 R.arcs.length (R.arcs.length + sq)]
theorem arcF_no {R : RV} {X : List (List UInt8)} (h : numsO X = none ∨ (X.length : Int) ≠ 5) : arcF R X = none := by
  unfold arcF
  split
  · rcases h with h | h
    · rw [h]; rfl
    · omega
  · rfl

set_option maxHeartbeats 16000000 in
set_option maxRecDepth 20000 in
theorem readFst_c (s0 : List UInt8) (hs0 : s0.length ≤ 9223372036854775807) : Ct Tryd.prog 19 [stV s0] [] [] 0 (ReadPost (parseF s0)) := by
  have hbs := bs_size s0
  refine ctW Tryd.tyOk 20 [] Tryd.func19 rfl (by simp) (by simp) (fr := [(0, stV s0)]) rfl ?_
  repeat' (first | exact rfl | ((conv => whnf); first | (refine qX (fun h => ?_) fun h => ?_ <;> try exact absurd h (by omega)) | refine oN ?_ | refine oM ?_ ?_ | refine bM ?_ ?_ | refine dR ?_))
  · (conv => whnf)
    refine ⟨[(0, none), (1, none)], [(0, .arr true 3 .int [] 0), (1, .arr true 35 .arc [] 0)], 2, .tup [.agg [.i 0, .i 0, .sl 0 1 0 0 0, .sl 1 5 0 0 0], .c (.i 0), .c (.i 2)], ⟨by rfl, trivial, by simp [nilO]⟩, by simp, read_no ?_⟩
    unfold parseF
    rw [if_pos (by omega)]
  (conv => whnf)
  refine cF (refCut_c s0 10 (by omega)) [] Tryd.call43 ?_
  rintro _ _ ⟨spL, rfl, rfl⟩
  have hsl := spl_len 10 _ s0 (Nat.le_refl _)
  have hpf := fun res h => parseF_run (s := s0) (by omega) (res := res) h
  have hL1 : 1 ≤ (spl 10 s0).length := List.length_pos_iff.2 (spl_ne _ _)
  have hLd : ∀ i : Nat, ((spl 10 s0).map bs).getD i EK.str.dflt = bs ((spl 10 s0).getD i []) := mapbs_getD _
  have hLl : ((spl 10 s0).map bs).length = (spl 10 s0).length := by simp
  generalize hL : spl 10 s0 = L at *
  generalize hLs : L.map bs = Ls at *
  have hpf := hpf (runL 1 zeroR L) rfl
  have hrun0 : runL (0 + 1) ⟨0, 0, [], [], -1⟩ (L.drop 0) = runL 1 zeroR L := by rw [List.drop_zero]; exact runL_first _ L
  generalize hres : runL 1 zeroR L = res at *
  repeat' (first | exact rfl | ((conv => whnf); first | (refine qX (fun h => ?_) fun h => ?_ <;> try exact absurd h (by omega)) | refine oN ?_ | refine oM ?_ ?_ | refine bM ?_ ?_ | refine dR ?_))
  (conv => whnf)
  refine loopI (fun z : Nat × RV × Nat × Nat => ⟨[(2, .c (.ptr 0 0)), (5, .c (.sl 1 1 0 L.length (L.length + spL))), (6, .c (.ptr 2 0)), (7, .i z.2.1.last), (8, .i z.1)], [(0, .box 25 zr25), (1, .arr true 9 .str Ls spL), (2, .box 25 (rC z.2.1 3 4 z.2.2.1 z.2.2.2)), (3, .arr true 3 .int z.2.1.fin z.2.2.1), (4, .arr true 35 .arc z.2.1.arcs z.2.2.2)], 5⟩)
    (fun z => LnOk L z.1 z.2.1 res) (fun z => L.length - z.1) (0, ⟨0, 0, [], [], -1⟩, 0, 0) [(3, none), (4, none)] ⟨by rfl, ?_, ?_⟩ ⟨by simp only; omega, fun _ => rfl, fun h => absurd rfl h, by simp only [List.length_nil]; omega, by simp only [List.length_nil]; omega, hrun0⟩ ?_
  · simp
  · simp [nilO, rC]
  · rintro ⟨i, R, sp, sq⟩ hI
    simp only at hI ⊢
    have hi := hI.le
    have hcnt := hI.cnt
    have hflen := hI.flen
    have hbad : (i ≠ L.length - 1 ∨ i = 0 ∨ L.getD i [] ≠ []) → (i = L.length - 1 ∨ takeF (i + 1) R (spl 32 (L.getD i [])) = none) → parseF s0 = (none, ((i + 1 : Nat) : Int), 1) := fun a b => hpf.1 _ (hI.bad a b)
    have hstop := fun a b c => hpf.2 R (hI.stop a b c)
    have hnext := fun R' a b => hI.next (R' := R') a b
    have hv : Ls.getD (0 + (i : Int).toNat) EK.str.dflt = bs (L.getD i []) := by rw [show 0 + (i : Int).toNat = i by omega, hLd]
    have hlnl := hsl.2 _ (getD_mem L i [] hi)
    have hX := spl_len 32 _ (L.getD i []) (Nat.le_refl _)
    have hX1 : 1 ≤ (spl 32 (L.getD i [])).length := List.length_pos_iff.2 (spl_ne _ _)
    have hcut := refCut_c (L.getD i []) 32 (by omega)
    generalize hln : L.getD i [] = ln at *
    have hXd : ∀ i : Nat, ((spl 32 ln).map bs).getD i EK.str.dflt = bs ((spl 32 ln).getD i []) := mapbs_getD _
    have hXn : ((spl 32 ln).map bs).length = (spl 32 ln).length := by simp
    generalize hXg : spl 32 ln = X at *
    have hund := fun lo len cap many a b => undigits_c X lo len cap many a b (by omega)
    generalize hXs : X.map bs = Xs at *
    have hzero := hI.zero
    have hrfin := hI.fin
    clear hI
    have hfl : R.fin.length ≤ 9223372036854775807 := by omega
    have hbad : (i ≠ L.length - 1 ∨ i = 0 ∨ ln ≠ []) → (i = L.length - 1 ∨ takeF (i + 1) R X = none) → parseF s0 = (none, (i : Int) + 1, 1) := fun a b => by rw [hbad a b]; rfl
    repeat' (first | exact rfl | ((conv => whnf); first | (refine qX (fun h => ?_) fun h => ?_ <;> try exact absurd h (by omega)) | refine oN ?_ | refine oM ?_ ?_ | refine bM ?_ ?_ | refine dR ?_))
    · have hne : ln = [] := by rw [hv, bs_data] at h; exact h
      have hp := hstop (by omega) (by omega) hne
      have hF : fstE ⟨R.st, R.sa, R.fin, R.arcs, R.fin.length + sp, R.arcs.length + sq⟩ = fstE (tfR R) := rfl
      generalize hfe : fstE (tfR R) = fe at *
      repeat' (first | exact rfl | ((conv => whnf); first | (refine qX (fun h => ?_) fun h => ?_ <;> try exact absurd h (by omega)) | refine oN ?_ | refine oM ?_ ?_ | refine bM ?_ ?_ | refine dR ?_))
      (conv => whnf)
      refine callF (checkFst_c ⟨R.st, R.sa, R.fin, R.arcs, R.fin.length + sp, R.arcs.length + sq⟩) [3, 4] Tryd.call13 rfl (by simp [rC]) (by simp [rC]) (by simp) ?_
      rintro _ _ ⟨rfl, rfl⟩
      repeat' (first | exact rfl | ((conv => whnf); first | (refine qX (fun h => ?_) fun h => ?_ <;> try exact absurd h (by omega)) | refine oN ?_ | refine oM ?_ ?_ | refine bM ?_ ?_ | refine dR ?_))
      · rw [hF] at h
        (conv => whnf)
        rw [hF]
        refine ⟨[(0, none), (1, none)], [(0, .arr true 3 .int [] 0), (1, .arr true 35 .arc [] 0)], 2, .tup [.agg [.i 0, .i 0, .sl 0 1 0 0 0, .sl 1 5 0 0 0], .c (.i 0), .c (.i fe)], ⟨by rfl, trivial, by simp [nilO]⟩, by simp, read_no (by rw [hp, if_neg h])⟩
      · rw [hF] at h
        rw [if_pos h] at hp
        (conv => whnf)
        rw [hF, h]
        refine ⟨[(0, some 3), (1, some 4)], [(0, .arr true 3 .int R.fin sp), (1, .arr true 35 .arc R.arcs sq)], 2, .tup [.agg [.i R.st, .i R.sa, .sl 0 1 0 R.fin.length (R.fin.length + sp), .sl 1 5 0 R.arcs.length (R.arcs.length + sq)], .c (.i 0), .c (.i 0)], ⟨by rfl, trivial, by simp⟩, by simp, R, sp, sq, by rw [hp]; rfl, by rw [hp], rfl⟩
    · have hne : ln ≠ [] := by rw [hv, bs_data] at h; exact h
      (conv => whnf)
      rw [hv]
      refine cF (hcut) [] Tryd.call43 ?_
      rintro _ _ ⟨spX, rfl, rfl⟩
      repeat' (first | exact rfl | ((conv => whnf); first | (refine qX (fun h => ?_) fun h => ?_ <;> try exact absurd h (by omega)) | refine oN ?_ | refine oM ?_ ?_ | refine bM ?_ ?_ | refine dR ?_))
      · (conv => whnf)
        refine cF (hund (0 + Int.toNat 1) ((X.length : Int) - 1).toNat (X.length + spX - Int.toNat 1) 2 (by omega) (by omega)) [5] Tryd.call44 ?_
        rintro v s (⟨ns, spn, hns, hl5, rfl, rfl⟩ | ⟨hno, rfl, rfl⟩)
        all_goals
          repeat' (first | exact rfl | ((conv => whnf); first | (refine qX (fun h => ?_) fun h => ?_ <;> try exact absurd h (by omega)) | refine oN ?_ | refine oM ?_ ?_ | refine bM ?_ ?_ | refine dR ?_))
          (conv => whnf)
          exact ⟨[(0, none), (1, none)], [(0, .arr true 3 .int [] 0), (1, .arr true 35 .arc [] 0)], 2, .tup [.agg [.i 0, .i 0, .sl 0 1 0 0 0, .sl 1 5 0 0 0], .c (.i ((i : Int) + 1)), .c (.i 1)], ⟨by rfl, trivial, by simp [nilO]⟩, by simp, read_no (hbad (.inr (.inr hne)) (.inl (by omega)))⟩
      · (conv => whnf)
        refine cF (hund 0 ((X.length : Int) - 1).toNat (X.length + spX - Int.toNat 1) 2 (by omega) (by omega)) [5] Tryd.call44 ?_
        rintro v s (⟨ns, spn, hns, hl5, rfl, rfl⟩ | ⟨hno, rfl, rfl⟩)
        all_goals
          repeat' (first | exact rfl | ((conv => whnf); first | (refine qX (fun h => ?_) fun h => ?_ <;> try exact absurd h (by omega)) | refine oN ?_ | refine oM ?_ ?_ | refine bM ?_ ?_ | refine dR ?_))
          (conv => whnf)
          exact ⟨[(0, none), (1, none)], [(0, .arr true 3 .int [] 0), (1, .arr true 35 .arc [] 0)], 2, .tup [.agg [.i 0, .i 0, .sl 0 1 0 0 0, .sl 1 5 0 0 0], .c (.i ((i : Int) + 1)), .c (.i 1)], ⟨by rfl, trivial, by simp [nilO]⟩, by simp, read_no (hbad (.inr (.inr hne)) (.inl (by omega)))⟩
      · (conv => whnf)
        refine cF (hund 0 X.length (X.length + spX) 5 (by omega) (by omega)) [5] Tryd.call44 ?_
        rintro v s (⟨ns, spn, hns, hl5, rfl, rfl⟩ | ⟨hno, rfl, rfl⟩)
        all_goals
          repeat' (first | exact rfl | ((conv => whnf); first | (refine qX (fun h => ?_) fun h => ?_ <;> try exact absurd h (by omega)) | refine oN ?_ | refine oM ?_ ?_ | refine bM ?_ ?_ | refine dR ?_))
          (conv => whnf)
          exact ⟨[(0, none), (1, none)], [(0, .arr true 3 .int [] 0), (1, .arr true 35 .arc [] 0)], 2, .tup [.agg [.i 0, .i 0, .sl 0 1 0 0 0, .sl 1 5 0 0 0], .c (.i ((i : Int) + 1)), .c (.i 1)], ⟨by rfl, trivial, by simp [nilO]⟩, by simp, read_no (hbad (.inr (.inr hne)) (.inl (by omega)))⟩
    · (conv => whnf)
      rw [hv]
      refine cF (hcut) [] Tryd.call43 ?_
      rintro _ _ ⟨spX, rfl, rfl⟩
      repeat' (first | exact rfl | ((conv => whnf); first | (refine qX (fun h => ?_) fun h => ?_ <;> try exact absurd h (by omega)) | refine oN ?_ | refine oM ?_ ?_ | refine bM ?_ ?_ | refine dR ?_))
      (conv => whnf)
      exact ⟨[(0, none), (1, none)], [(0, .arr true 3 .int [] 0), (1, .arr true 35 .arc [] 0)], 2, .tup [.agg [.i 0, .i 0, .sl 0 1 0 0 0, .sl 1 5 0 0 0], .c (.i ((i : Int) + 1)), .c (.i 1)], ⟨by rfl, trivial, by simp [nilO]⟩, by simp, read_no (hbad (.inr (.inl (by omega))) (.inl (by omega)))⟩
    · (conv => whnf)
      rw [hv]
      refine cF (hcut) [] Tryd.call43 ?_
      rintro _ _ ⟨spX, rfl, rfl⟩
      repeat' (first | exact rfl | ((conv => whnf); first | (refine qX (fun h => ?_) fun h => ?_ <;> try exact absurd h (by omega)) | refine oN ?_ | refine oM ?_ ?_ | refine bM ?_ ?_ | refine dR ?_))
      · have hi0 : i = 0 := by omega
        rename_i h4 hw0
        have hR := hzero hi0
        subst hR
        have ht0 : takeF (i + 1) ⟨0, 0, [], [], -1⟩ X = headF X := by unfold takeF; rw [if_pos (by omega)]
        have v0 : Xs.getD (0 + Int.toNat 0) EK.str.dflt = bs (X.getD 0 []) := hXd 0
        have v1 : Xs.getD (0 + Int.toNat 1) EK.str.dflt = bs (X.getD 1 []) := hXd 1
        have v2 : Xs.getD (0 + Int.toNat 2) EK.str.dflt = bs (X.getD 2 []) := hXd 2
        have v3 : Xs.getD (0 + Int.toNat 3) EK.str.dflt = bs (X.getD 3 []) := hXd 3
        rw [v0, bs_data] at hw0
        rw [v2, bs_data] at h
        have hhd : headF X = (numsO [X.getD 1 [], X.getD 3 []]).bind fun ns => if 1 ≤ nth ns 0 ∧ nth ns 0 ≤ 200 then some ⟨nth ns 0, nth ns 1, List.replicate (nth ns 0).toNat (-1), [], -1⟩ else none := by
          unfold headF
          rw [if_pos ⟨by omega, hw0, h⟩]
        clear hstop hrfin hzero
        generalize hA : X.getD 1 [] = A at *
        generalize hB : X.getD 3 [] = B at *
        repeat' (first | exact rfl | ((conv => whnf); first | (refine qX (fun h => ?_) fun h => ?_ <;> try exact absurd h (by omega)) | refine oN ?_ | refine oM ?_ ?_ | refine bM ?_ ?_ | refine dR ?_))
        (conv => whnf)
        try simp only [Nat.reduceAdd, Nat.reduceSub]
        rw [v1, v3]
        have hup := undigits_c [A, B] 0 2 2 2 (by simp) (by omega) (by simp)
        rw [List.drop_zero, List.take_of_length_le (by simp)] at hup
        refine cF (hup) [6] Tryd.call44 ?_
        rintro v s (⟨ns, spn, hns, hl5, rfl, rfl⟩ | ⟨hno, rfl, rfl⟩)
        · have hnl := numsO_len hns
          simp only [List.length_cons, List.length_nil] at hnl
          rw [hns] at hhd
          have hn0 := numsO_rng hns _ (getD_mem ns 0 0 (by omega))
          have q0 : ns.getD (0 + Int.toNat 0) EK.int.dflt = nth ns 0 := rfl
          have q1 : ns.getD (0 + Int.toNat 1) EK.int.dflt = nth ns 1 := rfl
          repeat' (first | exact rfl | ((conv => whnf); first | (refine qX (fun h => ?_) fun h => ?_ <;> try exact absurd h (by omega)) | refine oN ?_ | refine oM ?_ ?_ | refine bM ?_ ?_ | refine dR ?_))
          (conv => whnf)
          try simp only [Nat.reduceAdd, Nat.reduceSub]
          refine cI (between_c (ns.getD (0 + Int.toNat 0) EK.int.dflt) 1 200) [] Tryd.call30 ?_
          repeat' (first | exact rfl | ((conv => whnf); first | (refine qX (fun h => ?_) fun h => ?_ <;> try exact absurd h (by omega)) | refine oN ?_ | refine oM ?_ ?_ | refine bM ?_ ?_ | refine dR ?_))
          · have hn9 := hnext ⟨nth ns 0, nth ns 1, List.replicate (nth ns 0).toNat (-1), [], -1⟩ (by omega) (by rw [ht0, hhd]; exact if_pos h)
            rw [q0] at h
            (conv => whnf)
            try simp only [Nat.reduceAdd, Nat.reduceSub]
            refine loopI (fun z : Nat × Nat => ⟨[(2, .c (.ptr 0 0)), (5, .c (.sl 1 1 0 L.length (L.length + spL))), (6, .c (.ptr 2 0)), (7, .i (-1)), (8, .i i), (11, .b true), (12, .c (.sl 5 1 0 ns.length (ns.length + spn))), (14, .i z.1)], [(0, .box 25 zr25), (1, .arr true 9 .str Ls spL), (2, .box 25 (rC ⟨nth ns 0, nth ns 1, List.replicate z.1 (-1), [], -1⟩ 3 4 z.2 sq)), (3, .arr true 3 .int (List.replicate z.1 (-1)) z.2), (4, .arr true 35 .arc [] sq), (5, .arr true 3 .int ns spn)], 6⟩)
              (fun z => (z.1 : Int) ≤ nth ns 0) (fun z => (nth ns 0).toNat - z.1) (0, sp) [(5, some 7)] ⟨by rfl, ?_, ?_⟩ (by simp only; omega) ?_
            · simp
              exact h
            · simp [rC, nth, EK.dflt]
            · rintro ⟨k, spk⟩ hk
              simp only at hk ⊢
              have hrl : (List.replicate k (-1 : Int)).length = k := by simp
              have hrs : List.replicate (k + 1) (-1 : Int) = List.replicate k (-1) ++ [-1] := List.replicate_succ'
              repeat' (first | exact rfl | ((conv => whnf); first | (refine qX (fun h => ?_) fun h => ?_ <;> try exact absurd h (by omega)) | refine oN ?_ | refine oM ?_ ?_ | refine bM ?_ ?_ | refine dR ?_))
              · intro sp2
                repeat' (first | exact rfl | ((conv => whnf); first | (refine qX (fun h => ?_) fun h => ?_ <;> try exact absurd h (by omega)) | refine oN ?_ | refine oM ?_ ?_ | refine bM ?_ ?_ | refine dR ?_))
                (conv => whnf)
                try simp only [Nat.reduceAdd, Nat.reduceSub]
                rw [q0] at *
                refine ⟨(k + 1, sp2), [(3, some 7)], ⟨by rfl, ?_, ?_⟩, by simp only; omega, by simp only; omega⟩
                · simp
                · simp [rC, hrs, lOp.appL, sub]
              · have e : k = (nth ns 0).toNat := by omega
                subst e
                (conv => whnf)
                refine ⟨(i + 1, ⟨nth ns 0, nth ns 1, List.replicate (nth ns 0).toNat (-1), [], -1⟩, spk, sq), [], ⟨by rfl, ?_, ?_⟩, hn9, by simp only; omega⟩
                · simp
                · simp [rC]
          · rw [q0] at h
            (conv => whnf)
            exact ⟨[(0, none), (1, none)], [(0, .arr true 3 .int [] 0), (1, .arr true 35 .arc [] 0)], 2, .tup [.agg [.i 0, .i 0, .sl 0 1 0 0 0, .sl 1 5 0 0 0], .c (.i ((i : Int) + 1)), .c (.i 1)], ⟨by rfl, trivial, by simp [nilO]⟩, by simp, read_no (hbad (.inl (by omega)) (.inr (by rw [ht0, hhd]; exact if_neg h)))⟩
        · repeat' (first | exact rfl | ((conv => whnf); first | (refine qX (fun h => ?_) fun h => ?_ <;> try exact absurd h (by omega)) | refine oN ?_ | refine oM ?_ ?_ | refine bM ?_ ?_ | refine dR ?_))
          (conv => whnf)
          exact ⟨[(0, none), (1, none)], [(0, .arr true 3 .int [] 0), (1, .arr true 35 .arc [] 0)], 2, .tup [.agg [.i 0, .i 0, .sl 0 1 0 0 0, .sl 1 5 0 0 0], .c (.i ((i : Int) + 1)), .c (.i 1)], ⟨by rfl, trivial, by simp [nilO]⟩, by simp, read_no (hbad (.inl (by omega)) (.inr (by rw [ht0, hhd]; exact hno.elim (fun c => by rw [c]; rfl) (fun c => absurd rfl c))))⟩
      · rw [show Xs.getD (0 + Int.toNat 2) EK.str.dflt = bs (X.getD 2 []) from hXd 2, bs_data] at h
        (conv => whnf)
        exact ⟨[(0, none), (1, none)], [(0, .arr true 3 .int [] 0), (1, .arr true 35 .arc [] 0)], 2, .tup [.agg [.i 0, .i 0, .sl 0 1 0 0 0, .sl 1 5 0 0 0], .c (.i ((i : Int) + 1)), .c (.i 1)], ⟨by rfl, trivial, by simp [nilO]⟩, by simp, read_no (hbad (.inl (by omega)) (.inr (by unfold takeF; rw [if_pos (by omega)]; unfold headF; exact if_neg (fun c => h c.2.2))))⟩
      · rw [show Xs.getD (0 + Int.toNat 0) EK.str.dflt = bs (X.getD 0 []) from hXd 0, bs_data] at h
        (conv => whnf)
        exact ⟨[(0, none), (1, none)], [(0, .arr true 3 .int [] 0), (1, .arr true 35 .arc [] 0)], 2, .tup [.agg [.i 0, .i 0, .sl 0 1 0 0 0, .sl 1 5 0 0 0], .c (.i ((i : Int) + 1)), .c (.i 1)], ⟨by rfl, trivial, by simp [nilO]⟩, by simp, read_no (hbad (.inl (by omega)) (.inr (by unfold takeF; rw [if_pos (by omega)]; unfold headF; exact if_neg (fun c => h c.2.1))))⟩
      · have h4 : ¬ X.length = 4 := by omega
        (conv => whnf)
        exact ⟨[(0, none), (1, none)], [(0, .arr true 3 .int [] 0), (1, .arr true 35 .arc [] 0)], 2, .tup [.agg [.i 0, .i 0, .sl 0 1 0 0 0, .sl 1 5 0 0 0], .c (.i ((i : Int) + 1)), .c (.i 1)], ⟨by rfl, trivial, by simp [nilO]⟩, by simp, read_no (hbad (.inl (by omega)) (.inr (by unfold takeF; rw [if_pos (by omega)]; unfold headF; exact if_neg (fun c => h4 c.1))))⟩
      · rename_i hq
        rw [show Xs.getD (0 + Int.toNat 0) EK.str.dflt = bs (X.getD 0 []) from hXd 0, bs_data] at hq
        have hfin := hrfin (by omega)
        have ht : takeF (i + 1) R X = finF R X := by unfold takeF; rw [if_neg (by omega)]; exact if_pos hq
        have hdl : (X.drop 1).length = X.length - 1 := by simp
        have hnum : ∀ lo len cap : Nat, lo + len ≤ X.length → (X.drop lo).take len = X.drop 1 → Ct Tryd.prog 44 [SV.c (SC.sl 0 1 lo len cap), SV.i 2] [] [(0, SO.arr false 9 EK.str Xs 0)] 1 (UndPost (X.drop 1) 2) := fun lo len cap h e => by
          have := hund lo len cap 2 h (by omega)
          rwa [e] at this
        have hbad2 : finF R X = none → parseF s0 = (none, (i : Int) + 1, 1) := fun e => hbad (.inl (by omega)) (.inr (by rw [ht]; exact e))
        (conv => whnf)
        refine cF (hnum (0 + Int.toNat 1) ((X.length : Int) - 1).toNat (X.length + spX - Int.toNat 1) (by omega) (by rw [show 0 + Int.toNat 1 = 1 from rfl, List.take_of_length_le (by omega)])) [5] Tryd.call44 ?_
        rintro v s (⟨ns, spn, hns, hl5, rfl, rfl⟩ | ⟨hno, rfl, rfl⟩)
        · have hnl := numsO_len hns
          have hn0 := numsO_rng hns _ (getD_mem ns 0 0 (by omega))
          have hn0' : 0 ≤ nth ns 0 := hn0.1
          have q0 : ns.getD (0 + Int.toNat 0) EK.int.dflt = nth ns 0 := rfl
          have q1 : ns.getD (0 + Int.toNat 1) EK.int.dflt = nth ns 1 := rfl
          have hff : finF R X = if R.arcs = [] ∧ R.last < nth ns 0 ∧ nth ns 0 < R.st then some { R with fin := R.fin.set (nth ns 0).toNat (nth ns 1), last := nth ns 0 } else none := by
            unfold finF
            rw [if_pos (by omega), hns]
            rfl
          repeat' (first | exact rfl | ((conv => whnf); first | (refine qX (fun h => ?_) fun h => ?_ <;> try exact absurd h (by omega)) | refine oN ?_ | refine oM ?_ ?_ | refine bM ?_ ?_ | refine dR ?_))
          · have hn9 := hnext { R with fin := R.fin.set (nth ns 0).toNat (nth ns 1), last := nth ns 0 } (by omega) (by rw [ht, hff]; exact if_pos ⟨List.eq_nil_of_length_eq_zero (by omega), by omega, by omega⟩)
            (conv => whnf)
            refine ⟨(i + 1, { R with fin := R.fin.set (nth ns 0).toNat (nth ns 1), last := nth ns 0 }, sp, sq), [], ⟨by rfl, ?_, ?_⟩, hn9, by simp only; omega⟩
            · simp [nth, EK.dflt]
            · simp [rC, nth, EK.dflt]
          · have e0 : finF R X = none := by rw [hff]; exact if_neg (fun c => by omega)
            (conv => whnf)
            exact ⟨[(0, none), (1, none)], [(0, .arr true 3 .int [] 0), (1, .arr true 35 .arc [] 0)], 2, .tup [.agg [.i 0, .i 0, .sl 0 1 0 0 0, .sl 1 5 0 0 0], .c (.i ((i : Int) + 1)), .c (.i 1)], ⟨by rfl, trivial, by simp [nilO]⟩, by simp, read_no (hbad2 e0)⟩
          · have e0 : finF R X = none := by rw [hff]; exact if_neg (fun c => by omega)
            (conv => whnf)
            exact ⟨[(0, none), (1, none)], [(0, .arr true 3 .int [] 0), (1, .arr true 35 .arc [] 0)], 2, .tup [.agg [.i 0, .i 0, .sl 0 1 0 0 0, .sl 1 5 0 0 0], .c (.i ((i : Int) + 1)), .c (.i 1)], ⟨by rfl, trivial, by simp [nilO]⟩, by simp, read_no (hbad2 e0)⟩
          · have e0 : finF R X = none := by rw [hff]; exact if_neg (fun c => h (by rw [c.1]; rfl))
            (conv => whnf)
            exact ⟨[(0, none), (1, none)], [(0, .arr true 3 .int [] 0), (1, .arr true 35 .arc [] 0)], 2, .tup [.agg [.i 0, .i 0, .sl 0 1 0 0 0, .sl 1 5 0 0 0], .c (.i ((i : Int) + 1)), .c (.i 1)], ⟨by rfl, trivial, by simp [nilO]⟩, by simp, read_no (hbad2 e0)⟩
        · have e0 : finF R X = none := by
            unfold finF
            split
            · rcases hno with h | h
              · rw [h]; rfl
              · omega
            · rfl
          repeat' (first | exact rfl | ((conv => whnf); first | (refine qX (fun h => ?_) fun h => ?_ <;> try exact absurd h (by omega)) | refine oN ?_ | refine oM ?_ ?_ | refine bM ?_ ?_ | refine dR ?_))
          (conv => whnf)
          exact ⟨[(0, none), (1, none)], [(0, .arr true 3 .int [] 0), (1, .arr true 35 .arc [] 0)], 2, .tup [.agg [.i 0, .i 0, .sl 0 1 0 0 0, .sl 1 5 0 0 0], .c (.i ((i : Int) + 1)), .c (.i 1)], ⟨by rfl, trivial, by simp [nilO]⟩, by simp, read_no (hbad2 e0)⟩
      · rename_i hq
        rw [show Xs.getD (0 + Int.toNat 0) EK.str.dflt = bs (X.getD 0 []) from hXd 0, bs_data] at hq
        have hfin := hrfin (by omega)
        have ht : takeF (i + 1) R X = finF R X := by unfold takeF; rw [if_neg (by omega)]; exact if_pos hq
        have hdl : (X.drop 1).length = X.length - 1 := by simp
        have hnum : ∀ lo len cap : Nat, lo + len ≤ X.length → (X.drop lo).take len = X.drop 1 → Ct Tryd.prog 44 [SV.c (SC.sl 0 1 lo len cap), SV.i 2] [] [(0, SO.arr false 9 EK.str Xs 0)] 1 (UndPost (X.drop 1) 2) := fun lo len cap h e => by
          have := hund lo len cap 2 h (by omega)
          rwa [e] at this
        have hbad2 : finF R X = none → parseF s0 = (none, (i : Int) + 1, 1) := fun e => hbad (.inl (by omega)) (.inr (by rw [ht]; exact e))
        (conv => whnf)
        refine cF (hnum 0 ((X.length : Int) - 1).toNat (X.length + spX - Int.toNat 1) (by omega) (by rw [List.drop_zero, List.take_eq_nil_iff.2 (.inl (by omega)), List.drop_eq_nil_of_le (by omega)])) [5] Tryd.call44 ?_
        rintro v s (⟨ns, spn, hns, hl5, rfl, rfl⟩ | ⟨hno, rfl, rfl⟩)
        · omega
        · have e0 : finF R X = none := by
            unfold finF
            split
            · rcases hno with h | h
              · rw [h]; rfl
              · omega
            · rfl
          repeat' (first | exact rfl | ((conv => whnf); first | (refine qX (fun h => ?_) fun h => ?_ <;> try exact absurd h (by omega)) | refine oN ?_ | refine oM ?_ ?_ | refine bM ?_ ?_ | refine dR ?_))
          (conv => whnf)
          exact ⟨[(0, none), (1, none)], [(0, .arr true 3 .int [] 0), (1, .arr true 35 .arc [] 0)], 2, .tup [.agg [.i 0, .i 0, .sl 0 1 0 0 0, .sl 1 5 0 0 0], .c (.i ((i : Int) + 1)), .c (.i 1)], ⟨by rfl, trivial, by simp [nilO]⟩, by simp, read_no (hbad2 e0)⟩
      · rw [show Xs.getD (0 + Int.toNat 0) EK.str.dflt = bs (X.getD 0 []) from hXd 0, bs_data] at h
        have ht : takeF (i + 1) R X = arcF R X := by unfold takeF; rw [if_neg (by omega)]; exact if_neg h
        have hu5 := hund 0 X.length (X.length + spX) 5 (by omega) (by omega)
        rw [List.drop_zero, List.take_length] at hu5
        (conv => whnf)
        refine cF (hu5) [5] Tryd.call44 ?_
        rintro v s (⟨ns, spn, hns, hl5, rfl, rfl⟩ | ⟨hno, rfl, rfl⟩)
        · have hnl := numsO_len hns
          have hn9 := hnext { R with arcs := R.arcs ++ [⟨nth ns 0, nth ns 1, nth ns 2, nth ns 3, nth ns 4⟩] } (by omega) (by rw [ht]; unfold arcF; rw [if_pos (by omega), hns]; rfl)
          repeat' (first | exact rfl | ((conv => whnf); first | (refine qX (fun h => ?_) fun h => ?_ <;> try exact absurd h (by omega)) | refine oN ?_ | refine oM ?_ ?_ | refine bM ?_ ?_ | refine dR ?_))
          intro sp2
          repeat' (first | exact rfl | ((conv => whnf); first | (refine qX (fun h => ?_) fun h => ?_ <;> try exact absurd h (by omega)) | refine oN ?_ | refine oM ?_ ?_ | refine bM ?_ ?_ | refine dR ?_))
          (conv => whnf)
          try simp only [Nat.reduceAdd, Nat.reduceSub]
          refine ⟨(i + 1, { R with arcs := R.arcs ++ [⟨nth ns 0, nth ns 1, nth ns 2, nth ns 3, nth ns 4⟩] }, sp, sp2), [(4, some 8)], ⟨by rfl, ?_, ?_⟩, hn9, by simp only; omega⟩
          · simp
          · simp [rC, nth, EK.dflt, lOp.appL, sub]
        · repeat' (first | exact rfl | ((conv => whnf); first | (refine qX (fun h => ?_) fun h => ?_ <;> try exact absurd h (by omega)) | refine oN ?_ | refine oM ?_ ?_ | refine bM ?_ ?_ | refine dR ?_))
          (conv => whnf)
          exact ⟨[(0, none), (1, none)], [(0, .arr true 3 .int [] 0), (1, .arr true 35 .arc [] 0)], 2, .tup [.agg [.i 0, .i 0, .sl 0 1 0 0 0, .sl 1 5 0 0 0], .c (.i ((i : Int) + 1)), .c (.i 1)], ⟨by rfl, trivial, by simp [nilO]⟩, by simp, read_no (hbad (.inl (by omega)) (.inr (by rw [ht]; exact arcF_no hno)))⟩
end Go.Fw

namespace Go.Fw
open Go Go.Proofs

end Go.Fw

namespace Go.Fw
open Go Go.Proofs

def aheadS (F : TF) : List Int × List Int := settled (F.arcs.map id) F.st.toNat (begun F)
def onS (F : TF) : List Int × List Int := settled (F.arcs.map swap) F.st.toNat F.fin

end Go.Fw

namespace Go.Fw
open Go Go.Proofs

/-- A transducer's cells, its lists wherever. -/
def cellsF (F : TF) (i j : Nat) (lf cf la ca : Nat) : List SC := [.i F.st, .i F.start, .sl i 1 0 lf cf, .sl j 5 0 la ca]

end Go.Fw

namespace Go.Fw
open Go Go.Proofs

end Go.Fw

namespace Go.Fw
open Go Go.Proofs

/-- What pushing answers. -/
def PushPost (F : TF) (v : SV) (s : S) : Prop :=
  if (toOf F).getD F.start.toNat 0 = -1 then ∃ sp, v = .tup [.agg [.i F.st, .i F.start, .sl 2 1 0 F.fin.length (F.fin.length + sp), .v (.slice none 0 0)], .c (.i (-1)), .c (.i 0)] ∧ s = ⟨[], [(2, .arr true 3 .int F.fin sp)], 3⟩
  else if pushBig (pushL (toOf F) F.arcs) = true then v = .tup [.agg [.i 0, .i 0, .v (.slice none 0 0), .v (.slice none 0 0)], .c (.i 0), .c (.i 2)] ∧ s = ⟨[], [], 2⟩
  else ∃ sp sp', v = .tup [.agg [.i F.st, .i F.start, .sl 2 1 0 F.fin.length (F.fin.length + sp), .sl 3 5 0 (pushL (toOf F) F.arcs).length ((pushL (toOf F) F.arcs).length + sp')], .c (.i ((toOf F).getD F.start.toNat 0)), .c (.i 0)] ∧
      s = ⟨[], [(2, .arr true 3 .int (pushF (toOf F) F.fin F.fin.length) sp), (3, .arr true 35 .arc (pushL (toOf F) F.arcs) sp')], 4⟩

/-- A transducer of which nothing is told. -/
def zeroF : TF := ⟨0, 0, [], [], 0, 0⟩

end Go.Fw

namespace Go.Fw
open Go Go.Proofs

/-- Turned round so far. -/
def revS (l : List Int) (k i : Nat) : Int := if i < k ∨ l.length ≤ i + k then l.getD (l.length - 1 - i) 0 else l.getD i 0
def revF (l : List Int) (k : Nat) : List Int := (List.range l.length).map (revS l k)

end Go.Fw

namespace Go.Fw
open Go Go.Proofs

/-- The best way of all: its end, what it costs, its arcs. -/
def bestE (F : TF) : Int × Int := bestF (aheadS F).1 F.fin F.fin.length
def bestW (F : TF) : List Int := (wayB F.arcs (aheadS F).2 F.st.toNat (bestE F).1).reverse

end Go.Fw

namespace Go.Fw
open Go Go.Proofs

def oneT : TF := ⟨2, 0, [-1, 1], [⟨0, 1, 2, 1, 5⟩], 2, 1⟩

end Go.Fw

namespace Go.Fw
open Go Go.Proofs

/-- Does a letter stand there, and how far does it go? -/
def fitE (l : List Int) (p x : Int) : Int × Bool := if x = 0 then (p, true) else (p + 1, decide (p < l.length ∧ l.getD p.toNat 0 = x))

/-- Two lists by their first difference. -/
def cmpL : List Int → List Int → Int
  | [], [] => 0
  | [], _ => -1
  | _ :: _, [] => 1
  | a :: l, b :: m => if cmpI a b ≠ 0 then cmpI a b else cmpL l m

/-- An order of spots: how much was read, how much was written, the state. -/
def spotLt (x y : Trip) : Bool := decide (cmpL [x.b, x.c, x.a] [y.b, y.c, y.a] < 0)

end Go.Fw

namespace Go.Fw
open Go Go.Proofs

/-- The walker as it stands: 0 itself, 1 final, 2 arcs, 3 in, 4 out, 5 numbers of arcs, 6 their rows, 7 the map, 8 what it holds. -/
structure Wk where
  F : TF
  u : List Int
  v : List Int
  cu : Nat
  cv : Nat
  rows : List Sli
  pi : List (Addr × List Int × Nat)
  es : List (Trip × Option Addr × Nat)
  clk : Nat
  pf : List (Addr × List Fnd × Nat)

def wkCells (W : Wk) : List SC := [.i W.F.st, .i W.F.start, .sl 1 1 0 W.F.fin.length W.F.capF, .sl 2 5 0 W.F.arcs.length W.F.capA, .sl 3 1 0 W.u.length W.cu, .sl 4 1 0 W.v.length W.cv, .sl 5 1 0 W.rows.length W.rows.length, .mp 7]

abbrev hpL (W : Wk) (es : List (Trip × Option Addr × Nat)) (clk : Nat) (pf : List (Addr × List Fnd × Nat)) : List (Nat × SO) := [(0, .box 58 [.i W.F.st, .i W.F.start, .sl 1 1 0 W.F.fin.length W.F.capF, .sl 2 5 0 W.F.arcs.length W.F.capA, .sl 3 1 0 W.u.length W.cu, .sl 4 1 0 W.v.length W.cv, .sl 5 1 0 W.rows.length W.rows.length, .mp 7]), (1, .arr false 3 .int W.F.fin 0), (2, .arr false 35 .arc W.F.arcs 0), (3, .arr false 3 .int W.u 0), (4, .arr false 3 .int W.v 0),
  (5, .arr true 22 .sli W.rows 0), (6, .pool 3 .int W.pi), (7, .map .trip .adr es clk), (8, .pool 60 .fnd pf)]
abbrev hpW (W : Wk) : List (Nat × SO) := hpL W W.es W.clk W.pf

/-- The map is in order. -/
structure MetOk (es : List (Trip × Option Addr × Nat)) (clk : Nat) (pf : List (Addr × List Fnd × Nat)) : Prop where
  born : BornOk es clk
  keys : (es.map (·.1)).Nodup
  adrs : (es.map (·.2.1)).Nodup
  row : ∀ e ∈ es, ∃ a f, e.2.1 = some a ∧ lkA pf a = some ([f], 0)

/-- What the map holds at a spot. -/
def metOf (es : List (Trip × Option Addr × Nat)) (pf : List (Addr × List Fnd × Nat)) (x : Trip) : Option Fnd := (lkM es x).bind fun oa => (rowA pf oa).head?

theorem lkM_mem {es : List (Trip × Option Addr × Nat)} (hk : (es.map (·.1)).Nodup) {e : Trip × Option Addr × Nat} (he : e ∈ es) : lkM es e.1 = some e.2.1 := by
  induction es with
  | nil => cases he
  | cons c es ih =>
    obtain ⟨x, y, n⟩ := c
    simp only [lkM]
    rcases List.mem_cons.1 he with rfl | h
    · simp
    · simp only [List.map_cons, List.nodup_cons] at hk
      rw [if_neg (fun c => hk.1 (by rw [c]; exact List.mem_map_of_mem h)), ih hk.2 h]

theorem lkM_some {es : List (Trip × Option Addr × Nat)} {x : Trip} {oa : Option Addr} (h : lkM es x = some oa) : ∃ n, (x, oa, n) ∈ es := by
  induction es with
  | nil => cases h
  | cons c es ih =>
    obtain ⟨y, b, n⟩ := c
    simp only [lkM] at h
    split at h
    · rename_i e
      cases h
      exact ⟨n, by rw [e]; exact List.mem_cons_self ..⟩
    · obtain ⟨n, h⟩ := ih h
      exact ⟨n, List.mem_cons_of_mem _ h⟩

theorem MetOk.at {es : List (Trip × Option Addr × Nat)} {clk : Nat} {pf : List (Addr × List Fnd × Nat)} (h : MetOk es clk pf) {e : Trip × Option Addr × Nat} (he : e ∈ es) : ∃ a f, e.2.1 = some a ∧ lkA pf a = some ([f], 0) ∧ lkM es e.1 = some (some a) ∧ rowA pf (some a) = [f] ∧ metOf es pf e.1 = some f := by
  obtain ⟨a, f, h1, h2⟩ := h.row e he
  have h3 := lkM_mem h.keys he
  rw [h1] at h3
  have h4 : rowA pf (some a) = [f] := by simp [rowA, h2]
  exact ⟨a, f, h1, h2, h3, h4, by simp [metOf, h3, h4]⟩

theorem MetOk.of {es : List (Trip × Option Addr × Nat)} {clk : Nat} {pf : List (Addr × List Fnd × Nat)} (h : MetOk es clk pf) {x : Trip} {f : Fnd} (hx : metOf es pf x = some f) : ∃ a n, (x, some a, n) ∈ es ∧ lkA pf a = some ([f], 0) ∧ lkM es x = some (some a) ∧ rowA pf (some a) = [f] := by
  unfold metOf at hx
  cases hl : lkM es x with
  | none => rw [hl] at hx; cases hx
  | some oa =>
    obtain ⟨n, hn⟩ := lkM_some hl
    obtain ⟨a, g, h1, h2, h3, h4, h5⟩ := h.at hn
    simp only at h1
    subst h1
    rw [hl] at hx
    simp only [Option.bind_some, h4, List.head?_cons, Option.some.injEq] at hx
    subst hx
    exact ⟨a, n, hn, h2, rfl, h4⟩

/-- The best so far of those that were seen. -/
def Nst (es : List (Trip × Option Addr × Nat)) (pf : List (Addr × List Fnd × Nat)) (seen : List Nat) (best : Trip) (any : Bool) : Prop :=
  (any = false ∧ ∀ e ∈ es, e.2.2 ∈ seen → ∀ f, metOf es pf e.1 = some f → f.dn = true) ∨
  (any = true ∧ ∃ g, metOf es pf best = some g ∧ g.dn = false ∧ ∀ e ∈ es, e.2.2 ∈ seen → ∀ f, metOf es pf e.1 = some f → f.dn = false → g.cost ≤ f.cost)

/-- What is left to be seen. -/
def left (es : List (Trip × Option Addr × Nat)) (seen : List Nat) : Nat := (es.filter fun e => !seen.contains e.2.2).length

theorem born_inj {es : List (Trip × Option Addr × Nat)} (h : (es.map (·.2.2)).Nodup) {e c : Trip × Option Addr × Nat} (he : e ∈ es) (hc : c ∈ es) (h2 : c.2.2 = e.2.2) : c = e := by
  induction es with
  | nil => cases he
  | cons d es ih =>
    simp only [List.map_cons, List.nodup_cons, List.mem_map] at h
    rcases List.mem_cons.1 he with rfl | he <;> rcases List.mem_cons.1 hc with rfl | hc
    · rfl
    · exact absurd ⟨c, by assumption, h2⟩ h.1
    · exact absurd ⟨e, by assumption, h2.symm⟩ h.1
    · exact ih h.2 (by assumption) (by assumption)

section
variable {es : List (Trip × Option Addr × Nat)} {clk : Nat} {pf : List (Addr × List Fnd × Nat)} {seen : List Nat} {best : Trip} {e : Trip × Option Addr × Nat} {f : Fnd}

theorem Nst.skip (hm : MetOk es clk pf) {any : Bool} (h : Nst es pf seen best any) (he : e ∈ es) (hf : metOf es pf e.1 = some f) (hd : f.dn = true) : Nst es pf (seen ++ [e.2.2]) best any := by
  have key : ∀ c ∈ es, c.2.2 ∈ seen ++ [e.2.2] → c.2.2 ∈ seen ∨ c = e := by
    intro c hc h
    rcases List.mem_append.1 h with h | h
    · exact .inl h
    · exact .inr (born_inj hm.born.1 he hc (List.mem_singleton.1 h))
  rcases h with ⟨q1, q2⟩ | ⟨q1, g, q2, q3, q4⟩
  · refine .inl ⟨q1, fun c hc hs f' hf' => ?_⟩
    rcases key c hc hs with h | rfl
    · exact q2 c hc h f' hf'
    · rw [hf] at hf'; cases hf'; exact hd
  · refine .inr ⟨q1, g, q2, q3, fun c hc hs f' hf' hd' => ?_⟩
    rcases key c hc hs with h | rfl
    · exact q4 c hc h f' hf' hd'
    · rw [hf] at hf'; cases hf'; rw [hd] at hd'; cases hd'

theorem Nst.new (hm : MetOk es clk pf) (h : Nst es pf seen best false) (he : e ∈ es) (hf : metOf es pf e.1 = some f) (hd : f.dn = false) : Nst es pf (seen ++ [e.2.2]) e.1 true := by
  rcases h with ⟨q1, q2⟩ | ⟨q1, g, q2, q3, q4⟩
  · refine .inr ⟨rfl, f, hf, hd, fun c hc hs f' hf' hd' => ?_⟩
    rcases List.mem_append.1 hs with h | h
    · have := q2 c hc h f' hf'
      rw [hd'] at this
      cases this
    · have := born_inj hm.born.1 he hc (List.mem_singleton.1 h)
      subst this
      rw [hf] at hf'
      cases hf'
      exact Int.le_refl _
  · cases q1

theorem Nst.better {g : Fnd} (hm : MetOk es clk pf) (h : Nst es pf seen best true) (he : e ∈ es) (hf : metOf es pf e.1 = some f) (hd : f.dn = false) (hg : metOf es pf best = some g) (hc : f.cost ≤ g.cost) : Nst es pf (seen ++ [e.2.2]) e.1 true := by
  rcases h with ⟨q1, q2⟩ | ⟨q1, g', q2, q3, q4⟩
  · cases q1
  · rw [hg] at q2
    cases q2
    refine .inr ⟨rfl, f, hf, hd, fun c hc' hs f' hf' hd' => ?_⟩
    rcases List.mem_append.1 hs with h | h
    · exact Int.le_trans hc (q4 c hc' h f' hf' hd')
    · have := born_inj hm.born.1 he hc' (List.mem_singleton.1 h)
      subst this
      rw [hf] at hf'
      cases hf'
      exact Int.le_refl _

theorem Nst.keep {g : Fnd} (hm : MetOk es clk pf) (h : Nst es pf seen best true) (he : e ∈ es) (hf : metOf es pf e.1 = some f) (hg : metOf es pf best = some g) (hc : g.cost ≤ f.cost) : Nst es pf (seen ++ [e.2.2]) best true := by
  rcases h with ⟨q1, q2⟩ | ⟨q1, g', q2, q3, q4⟩
  · cases q1
  · rw [hg] at q2
    cases q2
    refine .inr ⟨rfl, g, hg, q3, fun c hc' hs f' hf' hd' => ?_⟩
    rcases List.mem_append.1 hs with h | h
    · exact q4 c hc' h f' hf' hd'
    · have := born_inj hm.born.1 he hc' (List.mem_singleton.1 h)
      subst this
      rw [hf] at hf'
      cases hf'
      exact hc
end

end Go.Fw

namespace Go.Fw
open Go Go.Proofs

/-- A map with one value told. -/
def updD (D : Trip → Option Fnd) (y : Trip) (e : Fnd) : Trip → Option Fnd := fun z => if z = y then some e else D z

theorem lkM_setM {κ ν : Type} [DecidableEq κ] (es : List (κ × ν × Nat)) (y : κ) (v : ν) (z : κ) : lkM (setM es y v) z = if z = y ∧ (lkM es y).isSome then some v else lkM es z := by
  induction es with
  | nil => simp [setM, lkM]
  | cons e es ih =>
    obtain ⟨x, w, n⟩ := e
    simp only [setM]
    by_cases h : x = y
    · subst h
      by_cases hz : z = x
      · subst hz; simp [lkM]
      · simp [lkM, hz, Ne.symm hz]
    · rw [if_neg h]
      by_cases hz : x = z
      · subst hz; simp [lkM, h]
      · simp only [lkM, hz, h, if_false, ih]

theorem lkM_append {κ ν : Type} [DecidableEq κ] (es fs : List (κ × ν × Nat)) (z : κ) : lkM (es ++ fs) z = match lkM es z with
    | some v => some v
    | none => lkM fs z := by
  induction es with
  | nil => rfl
  | cons e es ih =>
    obtain ⟨x, w, n⟩ := e
    simp only [List.cons_append, lkM]
    by_cases h : x = z
    · simp [h]
    · simp only [h, if_false, ih]

theorem lkM_insM {κ ν : Type} [DecidableEq κ] (es : List (κ × ν × Nat)) (clk : Nat) (y : κ) (v : ν) (z : κ) : lkM (insM es clk y v).1 z = if z = y then some v else lkM es z := by
  unfold insM
  by_cases h : (lkM es y).isSome = true
  · rw [if_pos h, lkM_setM]
    simp [h]
  · rw [if_neg h, lkM_append]
    simp only [lkM]
    by_cases hz : z = y
    · subst hz
      simp only [Bool.not_eq_true, Option.isSome_eq_false_iff, Option.isNone_iff_eq_none] at h
      simp [h]
    · simp only [hz, Ne.symm hz, if_false]
      cases lkM es z <;> rfl

theorem setM_keys {κ ν : Type} [DecidableEq κ] (es : List (κ × ν × Nat)) (y : κ) (v : ν) : (setM es y v).map (·.1) = es.map (·.1) ∧ (setM es y v).map (·.2.2) = es.map (·.2.2) := by
  induction es with
  | nil => exact ⟨rfl, rfl⟩
  | cons e es ih =>
    obtain ⟨x, w, n⟩ := e
    simp only [setM]
    split
    · exact ⟨rfl, rfl⟩
    · simp [ih.1, ih.2]

theorem setM_mem {κ ν : Type} [DecidableEq κ] {es : List (κ × ν × Nat)} {y : κ} {v : ν} {e : κ × ν × Nat} (h : e ∈ setM es y v) : e ∈ es ∨ (e.1 = y ∧ e.2.1 = v) := by
  induction es with
  | nil => cases h
  | cons c es ih =>
    obtain ⟨x, w, n⟩ := c
    simp only [setM] at h
    split at h
    · rename_i hx
      rcases List.mem_cons.1 h with rfl | h
      · exact .inr ⟨hx, rfl⟩
      · exact .inl (List.mem_cons_of_mem _ h)
    · rcases List.mem_cons.1 h with rfl | h
      · exact .inl (List.mem_cons_self ..)
      · rcases ih h with h | h
        · exact .inl (List.mem_cons_of_mem _ h)
        · exact .inr h

theorem setM_adrs {es : List (Trip × Option Addr × Nat)} (h : (es.map (·.2.1)).Nodup) (y : Trip) {v : Option Addr} (hv : ∀ e ∈ es, e.2.1 ≠ v) : ((setM es y v).map (·.2.1)).Nodup := by
  induction es with
  | nil => exact h
  | cons c es ih =>
    obtain ⟨x, w, n⟩ := c
    simp only [List.map_cons, List.nodup_cons] at h
    simp only [setM]
    split
    · simp only [List.map_cons, List.nodup_cons]
      refine ⟨fun hm => ?_, h.2⟩
      obtain ⟨e, he, e2⟩ := List.mem_map.1 hm
      exact hv e (List.mem_cons_of_mem _ he) e2
    · simp only [List.map_cons, List.nodup_cons]
      refine ⟨fun hm => ?_, ih h.2 (fun e he => hv e (List.mem_cons_of_mem _ he))⟩
      obtain ⟨e, he, e2⟩ := List.mem_map.1 hm
      rcases setM_mem he with he | ⟨_, he⟩
      · exact h.1 (e2 ▸ List.mem_map_of_mem he)
      · exact hv _ (List.mem_cons_self ..) (e2.symm.trans he)

section
variable {es : List (Trip × Option Addr × Nat)} {clk : Nat} {pf : List (Addr × List Fnd × Nat)}

theorem MetOk.ne (h : MetOk es clk pf) {a : Addr} (ha : lkA pf a = none) : ∀ e ∈ es, e.2.1 ≠ some a := by
  intro e he c
  obtain ⟨b, f, h1, h2⟩ := h.row e he
  rw [c] at h1
  cases h1
  rw [ha] at h2
  cases h2

theorem rowA_cons {a : Addr} {y : List Fnd × Nat} {oa : Option Addr} (h : oa ≠ some a) : rowA ((a, y) :: pf) oa = rowA pf oa := by
  cases oa with
  | none => rfl
  | some b => simp only [rowA, lkA, if_neg (fun c : a = b => h (by rw [c]))]

theorem MetOk.ins (h : MetOk es clk pf) {a : Addr} (ha : lkA pf a = none) (y : Trip) (e : Fnd) :
    MetOk (insM es clk y (some a)).1 (insM es clk y (some a)).2 ((a, [e], 0) :: pf) ∧ metOf (insM es clk y (some a)).1 ((a, [e], 0) :: pf) = updD (metOf es pf) y e := by
  have hne := h.ne ha
  have hrow : ∀ c ∈ es, ∃ b f, c.2.1 = some b ∧ lkA ((a, [e], 0) :: pf) b = some ([f], 0) := by
    intro c hc
    obtain ⟨b, f, h1, h2⟩ := h.row c hc
    refine ⟨b, f, h1, ?_⟩
    simp only [lkA]
    rw [if_neg (fun c' : a = b => hne c hc (by rw [h1, c'])), h2]
  constructor
  · unfold insM
    by_cases hs : (lkM es y).isSome = true
    · rw [if_pos hs]
      refine ⟨⟨?_, ?_⟩, ?_, ?_, ?_⟩
      · show ((setM es y (some a)).map (·.2.2)).Nodup
        rw [(setM_keys es y (some a)).2]; exact h.born.1
      · intro c hc
        have : c.2.2 ∈ (setM es y (some a)).map (·.2.2) := List.mem_map_of_mem hc
        rw [(setM_keys es y (some a)).2] at this
        obtain ⟨c', hc', e'⟩ := List.mem_map.1 this
        rw [← e']
        exact h.born.2 c' hc'
      · show ((setM es y (some a)).map (·.1)).Nodup
        rw [(setM_keys es y (some a)).1]; exact h.keys
      · exact setM_adrs h.adrs y hne
      · intro c hc
        rcases setM_mem hc with hc | ⟨_, hc⟩
        · exact hrow c hc
        · exact ⟨a, e, hc, by simp [lkA]⟩
    · rw [if_neg hs]
      have hnk : y ∉ es.map (·.1) := by
        intro hm
        obtain ⟨c, hc, e'⟩ := List.mem_map.1 hm
        have := lkM_mem h.keys hc
        rw [e'] at this
        rw [this] at hs
        exact hs rfl
      refine ⟨⟨?_, ?_⟩, ?_, ?_, ?_⟩
      · show ((es ++ [(y, some a, clk)]).map (·.2.2)).Nodup
        rw [List.map_append, List.nodup_append]
        refine ⟨h.born.1, by simp, ?_⟩
        intro n hn m hm
        obtain ⟨c, hc, rfl⟩ := List.mem_map.1 hn
        have := h.born.2 c hc
        simp only [List.map_cons, List.map_nil, List.mem_singleton] at hm
        omega
      · intro c hc
        show c.2.2 < clk + 1
        rcases List.mem_append.1 hc with hc | hc
        · have := h.born.2 c hc; omega
        · rw [List.mem_singleton.1 hc]; exact Nat.lt_succ_self _
      · show ((es ++ [(y, some a, clk)]).map (·.1)).Nodup
        rw [List.map_append, List.nodup_append]
        refine ⟨h.keys, by simp, ?_⟩
        intro n hn m hm
        simp only [List.map_cons, List.map_nil, List.mem_singleton] at hm
        subst hm
        intro c
        exact hnk (c ▸ hn)
      · show ((es ++ [(y, some a, clk)]).map (·.2.1)).Nodup
        rw [List.map_append, List.nodup_append]
        refine ⟨h.adrs, by simp, ?_⟩
        intro n hn m hm
        obtain ⟨c, hc, rfl⟩ := List.mem_map.1 hn
        simp only [List.map_cons, List.map_nil, List.mem_singleton] at hm
        subst hm
        exact hne c hc
      · intro c hc
        rcases List.mem_append.1 hc with hc | hc
        · exact hrow c hc
        · rw [List.mem_singleton.1 hc]
          exact ⟨a, e, rfl, by simp [lkA]⟩
  · funext z
    unfold metOf updD
    rw [lkM_insM]
    by_cases hz : z = y
    · rw [if_pos hz, if_pos hz]
      simp [rowA, lkA]
    · rw [if_neg hz, if_neg hz]
      show _ = (lkM es z).bind _
      cases hl : lkM es z with
      | none => rfl
      | some oa =>
        obtain ⟨n, hn⟩ := lkM_some hl
        simp only [Option.bind_some]
        rw [rowA_cons (hne _ hn)]
end

/-- One arc tried from a spot. -/
def stepD (F : TF) (u v : List Int) (x : Trip) (cost : Int) (D : Trip → Option Fnd) (n : Int) : Trip → Option Fnd :=
  let a := F.arcs.getD n.toNat EK.arc.dflt
  let i := fitE u x.b a.i
  let o := fitE v x.c a.o
  if i.2 = true ∧ o.2 = true then
    match D ⟨a.t, i.1, o.1⟩ with
    | none => updD D ⟨a.t, i.1, o.1⟩ ⟨cost + a.w, n, x.a, x.b, x.c, false⟩
    | some d => if cost + a.w < d.cost then updD D ⟨a.t, i.1, o.1⟩ ⟨cost + a.w, n, x.a, x.b, x.c, false⟩ else D
  else D

def onD (F : TF) (u v : List Int) (x : Trip) (cost : Int) (D : Trip → Option Fnd) (ns : List Int) : Trip → Option Fnd := ns.foldl (stepD F u v x cost) D

section
variable {F : TF} {u v : List Int} {x : Trip} {cost n : Int} {D : Trip → Option Fnd} {ar : Arc}

theorem stepD_no1 (har : F.arcs.getD n.toNat EK.arc.dflt = ar) (h : (!(fitE u x.b ar.i).2) = true) : stepD F u v x cost D n = D := by
  subst har
  rw [Bool.not_eq_true'] at h
  exact if_neg (fun c => by rw [h] at c; cases c.1)
theorem stepD_no2 (har : F.arcs.getD n.toNat EK.arc.dflt = ar) (h : (!(fitE v x.c ar.o).2) = true) : stepD F u v x cost D n = D := by
  subst har
  rw [Bool.not_eq_true'] at h
  exact if_neg (fun c => by rw [h] at c; cases c.2)
theorem stepD_new (har : F.arcs.getD n.toNat EK.arc.dflt = ar) (h1 : (!(fitE u x.b ar.i).2) = false) (h2 : (!(fitE v x.c ar.o).2) = false) (h3 : D ⟨ar.t, (fitE u x.b ar.i).1, (fitE v x.c ar.o).1⟩ = none) :
    stepD F u v x cost D n = updD D ⟨ar.t, (fitE u x.b ar.i).1, (fitE v x.c ar.o).1⟩ ⟨cost + ar.w, n, x.a, x.b, x.c, false⟩ := by
  subst har
  simp only [Bool.not_eq_false'] at h1 h2
  simp only [stepD, h1, h2, and_self, if_true, h3]
theorem stepD_less {d : Fnd} (har : F.arcs.getD n.toNat EK.arc.dflt = ar) (h1 : (!(fitE u x.b ar.i).2) = false) (h2 : (!(fitE v x.c ar.o).2) = false) (h3 : D ⟨ar.t, (fitE u x.b ar.i).1, (fitE v x.c ar.o).1⟩ = some d) (h4 : cost + ar.w < d.cost) :
    stepD F u v x cost D n = updD D ⟨ar.t, (fitE u x.b ar.i).1, (fitE v x.c ar.o).1⟩ ⟨cost + ar.w, n, x.a, x.b, x.c, false⟩ := by
  subst har
  simp only [Bool.not_eq_false'] at h1 h2
  simp only [stepD, h1, h2, and_self, if_true, h3, h4]
theorem stepD_keep {d : Fnd} (har : F.arcs.getD n.toNat EK.arc.dflt = ar) (h1 : (!(fitE u x.b ar.i).2) = false) (h2 : (!(fitE v x.c ar.o).2) = false) (h3 : D ⟨ar.t, (fitE u x.b ar.i).1, (fitE v x.c ar.o).1⟩ = some d) (h4 : ¬ cost + ar.w < d.cost) :
    stepD F u v x cost D n = D := by
  subst har
  simp only [Bool.not_eq_false'] at h1 h2
  simp only [stepD, h1, h2, and_self, if_true, h3, h4, if_false]

theorem MetOk.none {es : List (Trip × Option Addr × Nat)} {pf : List (Addr × List Fnd × Nat)} {y : Trip} (h : (!(@lkM EK.trip.ty EK.adr.ty (EK.instDeq .trip) es y).isSome) = true) : metOf es pf y = Option.none := by
  have h' : (lkM es y).isSome = false := by
    rw [Bool.not_eq_true'] at h
    exact h
  unfold metOf
  cases hl : lkM es y with
  | none => rfl
  | some b => rw [hl] at h'; cases h'
end

end Go.Fw
