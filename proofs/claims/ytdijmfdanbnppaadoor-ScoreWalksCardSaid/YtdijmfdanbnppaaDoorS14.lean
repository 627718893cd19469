/-
  What is printed is parsed as it was, and nothing else is: the plain law, its two ways.
-/
import Derived.Test.YtdijmfdanbnppaaDoorS13
import Derived.Test.YtdijmfdanbnppaaDoorS12
import Derived.Test.YtdijmfdanbnppaaDoorS10

set_option linter.unusedSimpArgs false
set_option linter.unusedVariables false

namespace Go.Fw
open Go

theorem jn_no {c : UInt8} : ∀ {l : List (List UInt8)} {d : UInt8}, d ≠ c → (∀ x ∈ l, ∀ y ∈ x, y ≠ d) → ∀ y ∈ jn c l, y ≠ d
  | [], _, _, _ => by simp [jn]
  | [x], _, _, h => h x (by simp)
  | x :: z :: r, d, hd, h => by
    intro y hy
    rw [jn_cons c x (by simp)] at hy
    rcases List.mem_append.1 hy with hy | hy
    · exact h x (by simp) y hy
    · rcases List.mem_cons.1 hy with rfl | hy
      · exact fun e => hd e.symm
      · exact jn_no (l := z :: r) hd (fun w hw => h w (by simp [hw])) y hy
theorem lw_no {word : List UInt8} {ns : List Int} {d : UInt8} (hd : d.toNat < 48) (hw : ∀ y ∈ word, y ≠ d) (hn : ∀ n ∈ ns, 0 ≤ n) : ∀ x ∈ lw word ns, ∀ y ∈ x, y ≠ d := by
  intro x hx
  unfold lw at hx
  rcases List.mem_append.1 hx with hx | hx
  · split at hx
    · simp at hx
    · simp only [List.mem_cons, List.not_mem_nil, or_false] at hx
      rw [hx]; exact hw
  · obtain ⟨n, h1, rfl⟩ := List.mem_map.1 hx
    exact itoa_no (hn n h1) d hd
theorem spl_lw {word : List UInt8} {ns : List Int} (hw : ∀ y ∈ word, y ≠ 32) (hn : ∀ n ∈ ns, 0 ≤ n) (hne : ns ≠ []) : spl 32 (jn 32 (lw word ns)) = lw word ns := by
  refine spl_jn 32 _ ?_ (lw_no (by decide) hw hn)
  unfold lw
  intro h
  have := (List.append_eq_nil_iff.1 h).2
  exact hne (List.map_eq_nil_iff.1 this)

theorem tFinal_no {d : UInt8} (h : d.toNat < 48) : ∀ y ∈ tFinal, y ≠ d := by
  intro y hy e
  subst e
  simp only [tFinal, List.mem_cons, List.not_mem_nil, or_false] at hy
  rcases hy with rfl | rfl | rfl | rfl | rfl <;> simp at h
theorem itoa_ne_final {n : Int} (h : 0 ≤ n) : Lib.itoa n ≠ tFinal := by
  intro e
  have := itoa_dig h 102 (by rw [e]; simp [tFinal])
  unfold Dig at this
  simp at this

/-- What can be printed. -/
structure Pr (st sa : Int) (fin : List Int) (arcs : List Arc) : Prop where
  hst : 1 ≤ st ∧ st ≤ 200
  hsa : 0 ≤ sa ∧ sa < 10000000000
  hlen : (fin.length : Int) = st
  hfin : ∀ w ∈ fin, -1 ≤ w ∧ w < 10000000000
  harc : ∀ a ∈ arcs, ∀ n ∈ arcL a, 0 ≤ n ∧ n < 10000000000

theorem fin_no {d : UInt8} (h1 : d.toNat < 48) (h2 : d ≠ 32) : ∀ (k : Nat) (l : List Int), (∀ w ∈ l, -1 ≤ w) → ∀ x ∈ finL k l, ∀ y ∈ x, y ≠ d
  | _, [], _ => by simp [finL]
  | k, w :: l, h => by
    intro x hx
    unfold finL at hx
    rcases List.mem_append.1 hx with hx | hx
    · split at hx
      · rename_i hw
        simp only [List.mem_cons, List.not_mem_nil, or_false] at hx
        subst hx
        have := h w (by simp)
        refine jn_no h2 (lw_no h1 (tFinal_no h1) ?_)
        intro n hn
        simp only [List.mem_cons, List.not_mem_nil, or_false] at hn
        rcases hn with rfl | rfl <;> omega
      · simp at hx
    · exact fin_no h1 h2 (k + 1) l (fun v hv => h v (by simp [hv])) x hx
theorem headLn_no {st sa : Int} (h1 : 0 ≤ st) (h2 : 0 ≤ sa) {d : UInt8} (hd : d.toNat < 48) : ∀ x ∈ [wStates, Lib.itoa st, wStart, Lib.itoa sa], ∀ y ∈ x, y ≠ d := by
  intro x hx
  simp only [List.mem_cons, List.not_mem_nil, or_false] at hx
  rcases hx with rfl | rfl | rfl | rfl
  · intro y hy e
    subst e
    simp only [wStates, List.mem_cons, List.not_mem_nil, or_false] at hy
    rcases hy with rfl | rfl | rfl | rfl | rfl | rfl <;> simp at hd
  · exact itoa_no h1 d hd
  · intro y hy e
    subst e
    simp only [wStart, List.mem_cons, List.not_mem_nil, or_false] at hy
    rcases hy with rfl | rfl | rfl | rfl | rfl <;> simp at hd
  · exact itoa_no h2 d hd
theorem prL_no {st sa : Int} {fin : List Int} {arcs : List Arc} (h : Pr st sa fin arcs) : ∀ x ∈ prL st sa fin arcs, ∀ y ∈ x, y ≠ 10 := by
  have h1 := h.hst
  have h2 := h.hsa
  intro x hx
  unfold prL at hx
  rcases List.mem_cons.1 hx with rfl | hx
  · exact jn_no (by decide) (headLn_no (by omega) (by omega) (by decide))
  rcases List.mem_append.1 hx with hx | hx
  · exact fin_no (by decide) (by decide) 0 fin (fun w hw => (h.hfin w hw).1) x hx
  · obtain ⟨a, ha, rfl⟩ := List.mem_map.1 hx
    exact jn_no (by decide) (lw_no (by decide) (by simp) (fun n hn => (h.harc a ha n hn).1))

theorem runL_step {n : Nat} {R R' : RV} {x : List UInt8} {t : List (List UInt8)} (ht : t ≠ []) (h : takeF n R (spl 32 x) = some R') : runL n R (x :: t) = runL (n + 1) R' t := by
  cases t with
  | nil => exact absurd rfl ht
  | cons y r => conv => lhs; unfold runL
                rw [h]

theorem head_back {st sa : Int} (h1 : 1 ≤ st ∧ st ≤ 200) (h2 : 0 ≤ sa ∧ sa < 10000000000) : headF (spl 32 (headLn st sa)) = some ⟨st, sa, List.replicate st.toNat (-1), [], -1⟩ := by
  unfold headLn
  rw [spl_jn 32 _ (by simp) (headLn_no (by omega) (by omega) (by decide))]
  have hn : numsO [Lib.itoa st, Lib.itoa sa] = some [st, sa] := numsO_itoa (ns := [st, sa]) (by
    intro n hn
    simp only [List.mem_cons, List.not_mem_nil, or_false] at hn
    rcases hn with rfl | rfl <;> omega)
  unfold headF
  rw [if_pos ⟨rfl, rfl, rfl⟩]
  show (numsO [Lib.itoa st, Lib.itoa sa]).bind _ = _
  rw [hn]
  exact if_pos h1

theorem fin_run : ∀ (ws : List Int) (pre : List Int) (n : Nat) (st sa last : Int) (t : List (List UInt8)), 2 ≤ n → t ≠ [] → last < pre.length → st = ((pre.length + ws.length : Nat) : Int) → (∀ w ∈ ws, -1 ≤ w ∧ w < 10000000000) → pre.length + ws.length ≤ 200 →
    ∃ n' last', 2 ≤ n' ∧ runL n ⟨st, sa, pre ++ List.replicate ws.length (-1), [], last⟩ (finL pre.length ws ++ t) = runL n' ⟨st, sa, pre ++ ws, [], last'⟩ t
  | [], pre, n, st, sa, last, t, hn, ht, hl, hs, hw, hc => ⟨n, last, hn, by simp [finL]⟩
  | w :: ws, pre, n, st, sa, last, t, hn, ht, hl, hs, hw, hc => by
    have h1 := hw w (by simp)
    have hw' : ∀ v ∈ ws, -1 ≤ v ∧ v < 10000000000 := fun v hv => hw v (by simp [hv])
    simp only [List.length_cons] at hs hc
    have hpl : (pre ++ [w]).length = pre.length + 1 := by simp
    by_cases hw1 : w = -1
    · subst hw1
      obtain ⟨n', l', g1, g2⟩ := fin_run ws (pre ++ [-1]) n st sa last t hn ht (by rw [hpl]; omega) (by rw [hpl]; omega) hw' (by rw [hpl]; omega)
      refine ⟨n', l', g1, ?_⟩
      rw [hpl] at g2
      unfold finL
      rw [if_neg (by simp), List.nil_append, List.length_cons, List.replicate_succ]
      simp only [List.append_assoc, List.singleton_append] at g2
      exact g2
    · obtain ⟨n', l', g1, g2⟩ := fin_run ws (pre ++ [w]) (n + 1) st sa pre.length t (by omega) ht (by rw [hpl]; omega) (by rw [hpl]; omega) hw' (by rw [hpl]; omega)
      refine ⟨n', l', g1, ?_⟩
      rw [hpl] at g2
      simp only [List.append_assoc, List.singleton_append] at g2
      rw [← g2]
      show runL n _ ((if w ≠ -1 then [jn 32 (lw tFinal [((pre.length : Nat) : Int), w])] else []) ++ finL (pre.length + 1) ws ++ t) = _
      rw [if_pos hw1, List.cons_append, List.nil_append, List.cons_append]
      refine runL_step ?_ ?_
      · simp [ht]
      have hns : ∀ m ∈ [((pre.length : Nat) : Int), w], 0 ≤ m ∧ m < 10000000000 := by
        intro m hm
        simp only [List.mem_cons, List.not_mem_nil, or_false] at hm
        rcases hm with rfl | rfl <;> omega
      rw [spl_lw (tFinal_no (by decide)) (fun m hm => (hns m hm).1) (by simp)]
      have hlw : lw tFinal [((pre.length : Nat) : Int), w] = [tFinal, Lib.itoa (pre.length : Nat), Lib.itoa w] := by simp [lw, tFinal]
      rw [hlw]
      unfold takeF
      rw [if_neg (by omega)]
      refine (if_pos rfl).trans ?_
      unfold finF
      refine (if_pos rfl).trans ?_
      show (numsO [Lib.itoa (pre.length : Nat), Lib.itoa w]).bind _ = _
      rw [show numsO [Lib.itoa (pre.length : Nat), Lib.itoa w] = some [((pre.length : Nat) : Int), w] from numsO_itoa hns]
      refine (if_pos ⟨rfl, hl, ?_⟩).trans ?_
      · simp only [nth, List.getD_cons_zero, List.getD_cons_succ, Int.toNat_natCast]
        congr 2
        rw [List.length_cons, List.replicate_succ, List.set_append_right _ _ (Nat.le_refl _)]
        simp
      · show ((pre.length : Nat) : Int) < st
        omega

theorem arc_run : ∀ (al : List Arc) (R : RV) (n : Nat) (t : List (List UInt8)), 2 ≤ n → t ≠ [] → (∀ a ∈ al, ∀ m ∈ arcL a, 0 ≤ m ∧ m < 10000000000) →
    ∃ n', 2 ≤ n' ∧ runL n R (al.map arcLn ++ t) = runL n' { R with arcs := R.arcs ++ al } t
  | [], R, n, t, hn, ht, _ => ⟨n, hn, by simp⟩
  | a :: al, R, n, t, hn, ht, h => by
    have ha := h a (by simp)
    obtain ⟨n', g1, g2⟩ := arc_run al { R with arcs := R.arcs ++ [a] } (n + 1) t (by omega) ht (fun b hb => h b (by simp [hb]))
    refine ⟨n', g1, ?_⟩
    simp only [List.append_assoc, List.singleton_append] at g2
    rw [← g2, List.map_cons, List.cons_append]
    refine runL_step ?_ ?_
    · simp [ht]
    unfold arcLn
    rw [spl_lw (by simp) (fun m hm => (ha m hm).1) (by simp [arcL])]
    have hlw : lw [] (arcL a) = [Lib.itoa a.f, Lib.itoa a.i, Lib.itoa a.o, Lib.itoa a.t, Lib.itoa a.w] := by simp [lw, arcL]
    rw [hlw]
    unfold takeF
    rw [if_neg (by omega)]
    refine (if_neg (itoa_ne_final (ha a.f (by simp [arcL])).1)).trans ?_
    unfold arcF
    refine (if_pos rfl).trans ?_
    rw [show numsO [Lib.itoa a.f, Lib.itoa a.i, Lib.itoa a.o, Lib.itoa a.t, Lib.itoa a.w] = some (arcL a) from numsO_itoa ha]
    rfl

/-- WHAT IS PRINTED IS PARSED AS IT WAS. -/
theorem parse_pr {F : TF} (hok : fstE F = 0) (hl : (prF F).length ≤ 100000) : ∃ last, parseF (prF F) = (some ⟨F.st, F.start, F.fin, F.arcs, last⟩, 0, 0) := by
  have hF := fstE_ok hok
  have h1 := hF.st
  have h2 := hF.start
  have h3 := hF.finl
  have hP : Pr F.st F.start F.fin F.arcs := by
    refine ⟨by omega, by omega, by omega, fun w hw => ?_, fun a ha n hn => ?_⟩
    · have := hF.fin w hw; omega
    · obtain ⟨q1, q2, q3, q4, q5, q6, q7, q8⟩ := hF.arc a ha
      simp only [arcL, List.mem_cons, List.not_mem_nil, or_false] at hn
      rcases hn with rfl | rfl | rfl | rfl | rfl <;> omega
  have hst : F.st.toNat = F.fin.length := by omega
  obtain ⟨n1, l1, g1, g2⟩ := fin_run F.fin [] 2 F.st F.start (-1) (F.arcs.map arcLn ++ [[]]) (by omega) (by simp) (by simp) (by simp; omega) hP.hfin (by simp; omega)
  obtain ⟨n2, g3, g4⟩ := arc_run F.arcs ⟨F.st, F.start, F.fin, [], l1⟩ n1 [[]] g1 (by simp) hP.harc
  have hr : runL 1 zeroR (spl 10 (prF F)) = .inl ⟨F.st, F.start, F.fin, F.arcs, l1⟩ := by
    rw [prF_uls, spl_uls _ (prL_no hP)]
    unfold prL
    rw [List.cons_append, runL_step (by simp) (show takeF 1 zeroR _ = _ by unfold takeF; rw [if_pos rfl]; exact head_back hP.hst hP.hsa)]
    simp only [List.nil_append, List.length_nil] at g2 g4
    rw [hst, List.append_assoc, g2, g4]
    unfold runL
    rw [if_pos ⟨by omega, rfl⟩]
  refine ⟨l1, ?_⟩
  unfold parseF
  rw [if_neg (by omega), hr]
  exact if_pos (show fstE (tfR ⟨F.st, F.start, F.fin, F.arcs, l1⟩) = 0 from hok)

/-- What was read so far, printed, is the lines so far. -/
structure RdS (R : RV) : Prop where
  len : (R.fin.length : Int) = R.st
  last : ∀ i : Nat, R.last < i → i < R.fin.length → R.fin.getD i (-1) = -1

end Go.Fw

/-
  fstBegun: what must be in any case.
-/
namespace Go.Fw
open Go Go.Proofs

abbrev smT : TF := ⟨2, 0, [-1, 1], [⟨0, 1, 2, 1, 5⟩], 2, 1⟩
def smS : List UInt8 := [115, 116, 97, 116, 101, 115, 32, 50, 32, 115, 116, 97, 114, 116, 32, 48, 10, 102, 105, 110, 97, 108, 32, 49, 32, 49, 10, 48, 32, 49, 32, 50, 32, 49, 32, 53, 10]
theorem itoa_one (n : Nat) (h : n < 10) : Lib.itoa (n : Int) = [UInt8.ofNat (48 + n)] := by rw [Lib.itoa_nonneg, Lib.decDigits_one h]
theorem sm_pr : prF smT = smS := by
  have h0 := itoa_one 0 (by omega)
  have h1 := itoa_one 1 (by omega)
  have h2 := itoa_one 2 (by omega)
  have h5 := itoa_one 5 (by omega)
  simp only [prF, hdL, finsK, arcsK, lnF_final, lnF_arc, arcL, List.length_cons, List.length_nil]
  simp [tStates, tStart, tFinal, smS, lnF, lnK, gapL, arcL]
  simp only [show ((2 : Nat) : Int) = 2 from rfl, show ((0 : Nat) : Int) = 0 from rfl, show ((1 : Nat) : Int) = 1 from rfl, show ((5 : Nat) : Int) = 5 from rfl] at h0 h1 h2 h5
  rw [h0, h1, h2, h5]
  rfl
theorem sm_ok : fstE smT = 0 := by decide
theorem sm_parse : ∃ last, parseF smS = (some ⟨2, 0, [-1, 1], [⟨0, 1, 2, 1, 5⟩], last⟩, 0, 0) := by
  have := parse_pr sm_ok (by rw [sm_pr]; decide)
  rw [sm_pr] at this
  exact this
theorem sm_p {p : Nat → Bool} (h : UsOk smT p) : p 0 = true ∧ p 1 = true := by
  have ha : (⟨0, 1, 2, 1, 5⟩ : Arc) ∈ smT.arcs := by simp
  have r0 : Rch smT.arcs false [smT.start] 0 := .here (by simp)
  have r1 : Rch smT.arcs false [smT.start] 1 := Rch.on r0 ha rfl
  have b1 : Rch smT.arcs true [((1 : Nat) : Int)] 1 := .here (by simp)
  have b0 : Rch smT.arcs true [((1 : Nat) : Int)] 0 := Rch.on b1 ha rfl
  exact ⟨(h.iff 0 (by decide)).2 ⟨r0, 1, by decide, by decide, b0⟩, (h.iff 1 (by decide)).2 ⟨r1, 1, by decide, by decide, b1⟩⟩
theorem sm_trim {st sa : Int} {fin : List Int} {arcs : List Arc} (h : TrimU smT st sa fin arcs) : st = 2 ∧ sa = 0 ∧ fin = [-1, 1] ∧ arcs = [⟨0, 1, 2, 1, 5⟩] := by
  rcases h with ⟨h, _⟩ | ⟨_, p, hp, h1, h2, h3, h4⟩
  · exact absurd sm_ok h
  · obtain ⟨p0, p1⟩ := sm_p hp
    have hk : kT smT p = ⟨2, 0, [-1, 1], [⟨0, 1, 2, 1, 5⟩], 0, 0⟩ := by
      simp [kT, smT, rkB, kfin, karc, kOk, kArc, p0, p1, List.getD, aD]
    rw [hk] at h1 h2 h3 h4
    exact ⟨h1, h2, h3, h4⟩
theorem sm_same (a b c d : Nat) : sameF ⟨2, 0, [-1, 1], [⟨0, 1, 2, 1, 5⟩], a, b⟩ ⟨2, 0, [-1, 1], [⟨0, 1, 2, 1, 5⟩], c, d⟩ = true := by kernel_rfl

theorem sm_post {g : Glo} {v : SV} {s : S} (h : ParsePost g (parseF smS) v s) : ∃ sp sq, v = .tup [.agg [.i 2, .i 0, .sl 1 1 0 2 (2 + sp), .sl 2 5 0 1 (1 + sq)], .c (.i 0), .c (.i 0)] ∧
    s = ⟨[], [(0, gloO g), (1, .arr true 3 .int [-1, 1] sp), (2, .arr true 35 .arc [⟨0, 1, 2, 1, 5⟩] sq)], 3⟩ := by
  obtain ⟨last, hp⟩ := sm_parse
  rw [hp] at h
  obtain ⟨R, sp, sq, rfl, rfl, rfl⟩ := h
  exact ⟨sp, sq, rfl, rfl⟩
theorem sm_tpost {v : SV} {s : S} (h : TrimPost smT v s) : ∃ sp sq, v = .tup [.agg [.i 2, .i 0, .sl 2 1 0 2 (2 + sp), .sl 3 5 0 1 (1 + sq)], .c (.i 0)] ∧
    s = ⟨[], [(2, .arr true 3 .int [-1, 1] sp), (3, .arr true 35 .arc [⟨0, 1, 2, 1, 5⟩] sq)], 4⟩ := by
  obtain ⟨st, sa, fin, arcs, sp, sq, hU, rfl, rfl⟩ := h
  obtain ⟨rfl, rfl, rfl, rfl⟩ := sm_trim hU
  rw [sm_ok]
  exact ⟨sp, sq, rfl, rfl⟩

set_option maxHeartbeats 8000000 in
set_option maxRecDepth 20000 in
theorem fstBegun_c (g : Glo) (hg : GloX g) : Ct Tryd.prog 10 [] [] [(0, gloO g)] 1 (fun v s => v = .b true ∧ s = ⟨[], [(0, gloO g)], 1⟩) := by
  refine ctW Tryd.tyOk 8 [] Tryd.func10 rfl (by simp) (by simp) (fr := []) rfl ?_
  repeat' (first | exact rfl | ((conv => whnf); first | (refine qX (fun h => ?_) fun h => ?_ <;> try exact absurd h (by omega)) | refine oN ?_ | refine oM ?_ ?_ | refine bM ?_ ?_ | refine dR ?_))
  (conv => whnf)
  refine cF (one_c) [] Tryd.call23 ?_
  rintro _ _ ⟨rfl, rfl⟩
  repeat' (first | exact rfl | ((conv => whnf); first | (refine qX (fun h => ?_) fun h => ?_ <;> try exact absurd h (by omega)) | refine oN ?_ | refine oM ?_ ?_ | refine bM ?_ ?_ | refine dR ?_ | intro _))
  (conv => whnf)
  try simp only [Nat.reduceAdd, Nat.reduceSub]
  refine callF (print_c g hg smT (by decide)) [1, 2, 0] Tryd.call12 rfl (by simp [oneV]) (by simp [oneV]) (by simp) ?_
  rintro _ _ ⟨rfl, rfl⟩
  rw [if_pos sm_ok, sm_ok, sm_pr]
  repeat' (first | exact rfl | ((conv => whnf); first | (refine qX (fun h => ?_) fun h => ?_ <;> try exact absurd h (by omega)) | refine oN ?_ | refine oM ?_ ?_ | refine bM ?_ ?_ | refine dR ?_ | intro _))
  (conv => whnf)
  try simp only [Nat.reduceAdd, Nat.reduceSub]
  refine cF (parse_c g hg smS (by decide)) [0] Tryd.call18 ?_
  rintro _ _ hp
  obtain ⟨sp, sq, rfl, rfl⟩ := sm_post hp
  clear hp
  repeat' (first | exact rfl | ((conv => whnf); first | (refine qX (fun h => ?_) fun h => ?_ <;> try exact absurd h (by omega)) | refine oN ?_ | refine oM ?_ ?_ | refine bM ?_ ?_ | refine dR ?_ | intro _))
  (conv => whnf)
  try simp only [Nat.reduceAdd, Nat.reduceSub]
  refine cF (one_c) [] Tryd.call23 ?_
  rintro _ _ ⟨rfl, rfl⟩
  repeat' (first | exact rfl | ((conv => whnf); first | (refine qX (fun h => ?_) fun h => ?_ <;> try exact absurd h (by omega)) | refine oN ?_ | refine oM ?_ ?_ | refine bM ?_ ?_ | refine dR ?_ | intro _))
  (conv => whnf)
  try simp only [Nat.reduceAdd, Nat.reduceSub]
  refine callF (trim_c smT (by decide)) [6, 7] Tryd.call11 rfl (by simp [oneV]) (by simp [oneV]) (by simp) ?_
  rintro _ _ hp
  obtain ⟨sp2, sq2, rfl, rfl⟩ := sm_tpost hp
  clear hp
  repeat' (first | exact rfl | ((conv => whnf); first | (refine qX (fun h => ?_) fun h => ?_ <;> try exact absurd h (by omega)) | refine oN ?_ | refine oM ?_ ?_ | refine bM ?_ ?_ | refine dR ?_ | intro _))
  (conv => whnf)
  try simp only [Nat.reduceAdd, Nat.reduceSub]
  refine cF (one_c) [] Tryd.call23 ?_
  rintro _ _ ⟨rfl, rfl⟩
  repeat' (first | exact rfl | ((conv => whnf); first | (refine qX (fun h => ?_) fun h => ?_ <;> try exact absurd h (by omega)) | refine oN ?_ | refine oM ?_ ?_ | refine bM ?_ ?_ | refine dR ?_ | intro _))
  (conv => whnf)
  try simp only [Nat.reduceAdd, Nat.reduceSub]
  refine callF (check_c smT (by decide)) [11, 12] Tryd.call16 rfl (by simp [oneV]) (by simp [oneV]) (by simp) ?_
  rintro _ _ ⟨rfl, rfl⟩
  rw [sm_ok]
  repeat' (first | exact rfl | ((conv => whnf); first | (refine qX (fun h => ?_) fun h => ?_ <;> try exact absurd h (by omega)) | refine oN ?_ | refine oM ?_ ?_ | refine bM ?_ ?_ | refine dR ?_ | intro _))
  rotate_left
  · exact absurd rfl h
  (conv => whnf)
  try simp only [Nat.reduceAdd, Nat.reduceSub]
  refine cF (one_c) [] Tryd.call23 ?_
  rintro _ _ ⟨rfl, rfl⟩
  repeat' (first | exact rfl | ((conv => whnf); first | (refine qX (fun h => ?_) fun h => ?_ <;> try exact absurd h (by omega)) | refine oN ?_ | refine oM ?_ ?_ | refine bM ?_ ?_ | refine dR ?_ | intro _))
  (conv => whnf)
  try simp only [Nat.reduceAdd, Nat.reduceSub]
  refine callF (sameFst_c ⟨2, 0, [-1, 1], [⟨0, 1, 2, 1, 5⟩], 2 + sp, 1 + sq⟩ smT (show ([-1, 1] : List Int).length ≤ 9223372036854775807 by decide) (by decide) (show ([⟨0, 1, 2, 1, 5⟩] : List Arc).length ≤ 9223372036854775807 by decide)) [3, 4, 13, 14] Tryd.call20 rfl (by simp [oneV, gV, smT]) (by simp [oneV, gV, smT]) (by simp) ?_
  rintro _ _ ⟨rfl, rfl⟩
  rw [sm_same]
  repeat' (first | exact rfl | ((conv => whnf); first | (refine qX (fun h => ?_) fun h => ?_ <;> try exact absurd h (by omega)) | refine oN ?_ | refine oM ?_ ?_ | refine bM ?_ ?_ | refine dR ?_ | intro _))
  (conv => whnf)
  try simp only [Nat.reduceAdd, Nat.reduceSub]
  refine cF (one_c) [] Tryd.call23 ?_
  rintro _ _ ⟨rfl, rfl⟩
  repeat' (first | exact rfl | ((conv => whnf); first | (refine qX (fun h => ?_) fun h => ?_ <;> try exact absurd h (by omega)) | refine oN ?_ | refine oM ?_ ?_ | refine bM ?_ ?_ | refine dR ?_ | intro _))
  (conv => whnf)
  try simp only [Nat.reduceAdd, Nat.reduceSub]
  refine callF (sameFst_c ⟨2, 0, [-1, 1], [⟨0, 1, 2, 1, 5⟩], 2 + sp2, 1 + sq2⟩ smT (show ([-1, 1] : List Int).length ≤ 9223372036854775807 by decide) (by decide) (show ([⟨0, 1, 2, 1, 5⟩] : List Arc).length ≤ 9223372036854775807 by decide)) [8, 9, 15, 16] Tryd.call20 rfl (by simp [oneV, gV, smT]) (by simp [oneV, gV, smT]) (by simp) ?_
  rintro _ _ ⟨rfl, rfl⟩
  rw [sm_same]
  repeat' (first | exact rfl | ((conv => whnf); first | (refine qX (fun h => ?_) fun h => ?_ <;> try exact absurd h (by omega)) | refine oN ?_ | refine oM ?_ ?_ | refine bM ?_ ?_ | refine dR ?_ | intro _))
  (conv => whnf)
  exact ⟨[], [(0, gloO g)], 1, .b true, ⟨by rfl, trivial, by simp [gloO]⟩, by simp, rfl, rfl⟩
end Go.Fw

namespace Go.Fw
open Go Go.Proofs

theorem one_edge {u v : List Int} {x y : Trip} {n : Nat} {w : Int} (h : Edge oneT u v x n y w) : n = 0 ∧ x.a = 0 ∧ w = 5 ∧ (fitE u x.b 1).2 = true ∧ (fitE v x.c 2).2 = true ∧ y = ⟨1, (fitE u x.b 1).1, (fitE v x.c 2).1⟩ := by
  obtain ⟨a, h1, h2, h3, h4, h5, h6⟩ := h
  have hn : n = 0 := by
    have := (List.getElem?_eq_some_iff.1 h1).1
    simp only [oneT, List.length_cons, List.length_nil] at this
    omega
  subst hn
  simp only [oneT, List.getElem?_cons_zero, Option.some.injEq] at h1
  subst h1
  exact ⟨rfl, h2.symm, h6, h3, h4, h5⟩

theorem one_reach {u v : List Int} {c : Int} {y : Trip} (h : Reach oneT u v (fromSt oneT) c y) : (y = ⟨0, 0, 0⟩ ∧ c = 0) ∨ (y = ⟨1, 1, 1⟩ ∧ c = 5 ∧ 0 < u.length) := by
  induction h with
  | here h => exact .inl ⟨h.1, h.2⟩
  | on hr he ih =>
    obtain ⟨_, h2, h3, h4, h5, h6⟩ := one_edge he
    rcases ih with ⟨rfl, rfl⟩ | ⟨rfl, _⟩
    · right
      refine ⟨?_, by omega, ?_⟩
      · rw [h6]
        rfl
      · unfold fitE at h4
        simp only [show (1 : Int) ≠ 0 by decide, if_false, decide_eq_true_eq] at h4
        omega
    · cases h2

theorem one_end {A : Trip → Option Int} (hA : IsLeast oneT [1] [2] (fromSt oneT) A) : A ⟨1, 1, 1⟩ = some 5 ∧ endF A [-1, 1] 1 1 2 = (⟨1, 1, 1⟩, 6) := by
  have h0 : Reach oneT [1] [2] (fromSt oneT) 0 ⟨0, 0, 0⟩ := .here ⟨rfl, rfl⟩
  have he : Edge oneT [1] [2] ⟨0, 0, 0⟩ 0 ⟨1, 1, 1⟩ 5 := ⟨⟨0, 1, 2, 1, 5⟩, rfl, rfl, rfl, rfl, rfl, rfl⟩
  have h1 : Reach oneT [1] [2] (fromSt oneT) (0 + 5) ⟨1, 1, 1⟩ := .on h0 he
  obtain ⟨c, h2, h3⟩ := hA.least _ _ h1
  have h4 : A ⟨1, 1, 1⟩ = some 5 := by
    rcases one_reach (hA.path _ _ h2) with ⟨q, _⟩ | ⟨_, q, _⟩
    · cases q
    · rw [h2, q]
  refine ⟨h4, ?_⟩
  have e1 : endF A [-1, 1] 1 1 1 = (⟨0, 0, 0⟩, -1) := by
    cases hd : A ⟨((0 : Nat) : Int), 1, 1⟩ with
    | none => exact endF_none hd
    | some d => exact endF_no hd (.inl rfl)
  have := endF_yes (D := A) (fin := [-1, 1]) (p := 1) (q := 1) (k := 1) (d := 5) h4 (by decide) (.inl (by rw [e1]))
  exact this

theorem one_nil {A : Trip → Option Int} (hA : IsLeast oneT [] [] (fromSt oneT) A) : (endF A [-1, 1] 0 0 2).2 = -1 := by
  have h4 : A ⟨((1 : Nat) : Int), 0, 0⟩ = none := by
    cases h : A ⟨((1 : Nat) : Int), 0, 0⟩ with
    | none => rfl
    | some c =>
      rcases one_reach (hA.path _ _ h) with ⟨q, _⟩ | ⟨q, _⟩
      · cases q
      · cases q
  have e1 : endF A [-1, 1] 0 0 1 = (⟨0, 0, 0⟩, -1) := by
    cases hd : A ⟨((0 : Nat) : Int), 0, 0⟩ with
    | none => exact endF_none hd
    | some d => exact endF_no hd (.inl rfl)
  rw [endF_none h4, e1]

theorem one_walk {E : Trip × Int} {l : List Int} (h : WalkIs oneT [1] [2] E l) : E.2 = 6 ∧ l = [0] := by
  obtain ⟨D, ord, rk, B, n, hD, hall, hE, hn, hl⟩ := h
  have h1 := one_end (hD.least hall)
  have hE2 : E = (⟨1, 1, 1⟩, 6) := hE.trans h1.2
  subst hE2
  refine ⟨rfl, ?_⟩
  obtain ⟨d, hd, _⟩ := Option.map_eq_some_iff.1 h1.1
  obtain ⟨m, rfl⟩ : ∃ m, n = m + 1 := ⟨n - 1, by omega⟩
  have key : chain D (m + 1) ⟨1, 1, 1⟩ = [0] := by
    rcases hD.by' _ d hd with ⟨q, _⟩ | ⟨k, x, c, w, g1, g2, g3, g4, g5, g6, g7, _, _⟩
    · cases q
    · obtain ⟨rfl, q2, q3, q4, q5, q6⟩ := one_edge g7
      have hx : x = ⟨0, 0, 0⟩ := by
        rcases one_reach ((hD.least hall).path x c.cost (by simp [g6])) with ⟨q, _⟩ | ⟨q, _⟩
        · exact q
        · rw [q] at q2; cases q2
      subst hx
      have e : (⟨d.s, d.i, d.o⟩ : Trip) = ⟨0, 0, 0⟩ := by rw [g2, g3, g4]
      rw [chain_on hd (by omega), g1, e]
      congr 1
      rcases hD.by' _ c g6 with ⟨_, _, q⟩ | ⟨k, x, c', w, _, _, _, _, _, _, q, _, _⟩
      · exact chain_stop g6 (by omega) m
      · have := (one_edge q).2.2.2.2.2
        cases this
  rw [key] at hl
  have := congrArg List.reverse hl
  rwa [List.reverse_reverse] at this

end Go.Fw

namespace Go.Fw
open Go Go.Proofs

theorem one_sc1 : scoreE oneT [1] [2] = 0 := by decide
theorem one_sc0 : scoreE oneT [] [] = 0 := by decide

set_option maxHeartbeats 8000000 in
set_option maxRecDepth 20000 in
theorem scoreBegun_c : Ct Tryd.prog 9 [] [] [] 0 (Is 0 (.b true)) := by
  refine ctW Tryd.tyOk 8 [] Tryd.func9 rfl (by simp) (by simp) (fr := []) rfl ?_
  repeat' (first | exact rfl | ((conv => whnf); first | (refine qX (fun h => ?_) fun h => ?_ <;> try exact absurd h (by omega)) | refine oN ?_ | refine oM ?_ ?_ | refine bM ?_ ?_ | refine dR ?_))
  (conv => whnf)
  refine cF (one_c) [] Tryd.call23 ?_
  rintro _ _ ⟨rfl, rfl⟩
  (conv => whnf)
  refine callF (score_ok oneT [1] [2] 1 1 (by decide) one_sc1) [0, 1, 2, 3] Tryd.call8 rfl (by simp [oneT, oneV]) (by simp [oneT, oneV]) (by simp) ?_
  rintro _ _ ⟨A, hA, rfl, rfl⟩
  have hA2 := (one_end hA).2
  rw [show (endF A oneT.fin (([1] : List Int).length : Int) (([2] : List Int).length : Int) oneT.fin.length) = endF A [-1, 1] 1 1 2 from rfl, hA2]
  clear hA hA2
  repeat' (first | exact rfl | ((conv => whnf); first | (refine qX (fun h => ?_) fun h => ?_ <;> try exact absurd h (by omega)) | refine oN ?_ | refine oM ?_ ?_ | refine bM ?_ ?_ | refine dR ?_))
  (conv => whnf)
  refine cF (one_c) [] Tryd.call23 ?_
  rintro _ _ ⟨rfl, rfl⟩
  (conv => whnf)
  refine callNil 3 .int (args' := [SV.a (SA.agg [SC.i 2, SC.i 0, SC.sl 4 1 0 2 2, SC.sl 5 5 0 1 1]), .c (.sl 6 1 0 0 0), .c (.v (.slice none 0 0))]) (fun β => by simp [SV.den, SA.den, SC.den, Env.add]) ?_
  (conv => whnf)
  refine callNil 3 .int (args' := [SV.a (SA.agg [SC.i 2, SC.i 0, SC.sl 4 1 0 2 2, SC.sl 5 5 0 1 1]), .c (.sl 6 1 0 0 0), .c (.sl 7 1 0 0 0)]) (fun β => by simp [SV.den, SA.den, SC.den, Env.add]) ?_
  (conv => whnf)
  refine callF (score_ok oneT [] [] 0 0 (by decide) one_sc0) [4, 5, 6, 7] Tryd.call8 rfl (by simp [oneT, oneV]) (by simp [oneT, oneV]) (by simp) ?_
  rintro _ _ ⟨A, hA, rfl, rfl⟩
  have hA2 := one_nil hA
  rw [show (endF A oneT.fin (([] : List Int).length : Int) (([] : List Int).length : Int) oneT.fin.length).2 = (endF A [-1, 1] 0 0 2).2 from rfl, hA2]
  clear hA hA2
  repeat' (first | exact rfl | ((conv => whnf); first | (refine qX (fun h => ?_) fun h => ?_ <;> try exact absurd h (by omega)) | refine oN ?_ | refine oM ?_ ?_ | refine bM ?_ ?_ | refine dR ?_))
  (conv => whnf)
  refine cF (one_c) [] Tryd.call23 ?_
  rintro _ _ ⟨rfl, rfl⟩
  (conv => whnf)
  refine callF (walkP_c oneT [1] [2] 1 1 (by decide) one_sc1) [8, 9, 10, 11] Tryd.call7 rfl (by simp [oneT, oneV]) (by simp [oneT, oneV]) (by simp) ?_
  rintro x s (⟨A, hA, hA2, _⟩ | ⟨E, l, sp, hW, hE, rfl, rfl⟩)
  · have h1 := (one_end hA).2
    have h2 : (endF A [-1, 1] 1 1 2).2 = -1 := hA2
    rw [h1] at h2
    cases h2
  obtain ⟨h1, rfl⟩ := one_walk hW
  rw [h1]
  clear hW hE h1
  repeat' (first | exact rfl | ((conv => whnf); first | (refine qX (fun h => ?_) fun h => ?_ <;> try exact absurd h (by omega)) | refine oN ?_ | refine oM ?_ ?_ | refine bM ?_ ?_ | refine dR ?_))
  (conv => whnf)
  refine cF (word_c [1] 1) [13] Tryd.call24 ?_
  rintro _ _ ⟨rfl, rfl⟩
  rw [show wordE [1] = 0 by decide]
  repeat' (first | exact rfl | ((conv => whnf); first | (refine qX (fun h => ?_) fun h => ?_ <;> try exact absurd h (by omega)) | refine oN ?_ | refine oM ?_ ?_ | refine bM ?_ ?_ | refine dR ?_))
  refine Back.is ?_
  simp only [eqV, eqA, eqC]
  rfl

end Go.Fw

/-
  The law ScoreWalks: its head.
-/
namespace Go.Fw
open Go Go.Proofs

set_option maxHeartbeats 4000000 in
set_option maxRecDepth 20000 in
theorem walkP_no (F : TF) (u v : List Int) (cu cv : Nat) (hl : F.fin.length ≤ 9223372036854775807) (hsc : scoreE F u v ≠ 0) :
    Ct Tryd.prog 7 [fV F, .c (.sl 2 1 0 u.length cu), .c (.sl 3 1 0 v.length cv)] [] (hpQ F u v) 4 (Is 4 (.tup [.c (.v (.slice none 0 0)), .c (.i 0), .c (.i (scoreE F u v))])) := by
  refine ctW Tryd.tyOk 15 [] Tryd.func7 rfl (by simp) (by simp) (fr := [(0, fV F), (1, .c (.sl 2 1 0 u.length cu)), (2, .c (.sl 3 1 0 v.length cv))]) rfl ?_
  repeat' (first | exact rfl | ((conv => whnf); first | (refine qX (fun h => ?_) fun h => ?_ <;> try exact absurd h (by omega)) | refine oN ?_ | refine oM ?_ ?_ | refine bM ?_ ?_ | refine dR ?_))
  (conv => whnf)
  refine cI (walk_no F u v cu cv hl hsc) [0, 1, 2, 3] Tryd.call21 ?_
  repeat' (first | exact rfl | ((conv => whnf); first | (refine qX (fun h => ?_) fun h => ?_ <;> try exact absurd h (by omega)) | refine oN ?_ | refine oM ?_ ?_ | refine bM ?_ ?_ | refine dR ?_))
  refine Back.is ?_
  simp

set_option maxHeartbeats 16000000 in
set_option maxRecDepth 20000 in
theorem scoreWalks_no (g : Glo) (hg : GloX g) (F : TF) (u v : List Int) (cu cv : Nat) (hl : F.fin.length ≤ 9223372036854775807) (hsc : scoreE F u v ≠ 0) :
    Ct Tryd.prog 3 [fV F, .c (.sl 2 1 0 u.length cu), .c (.sl 3 1 0 v.length cv)] [] (hpQ F u v ++ [(4, gloO g)]) 5 (fun v s => v = .b true ∧ s = ⟨[], [(4, gloO g)], 5⟩) := by
  have hw := walkP_no F u v cu cv hl hsc
  have hs := score_no F u v cu cv hl hsc
  generalize scoreE F u v = e at *
  refine ctW Tryd.tyOk 20 [] Tryd.func3 rfl (by simp) (by simp) (fr := [(0, fV F), (1, .c (.sl 2 1 0 u.length cu)), (2, .c (.sl 3 1 0 v.length cv))]) rfl ?_
  repeat' (first | exact rfl | ((conv => whnf); first | (refine qX (fun h => ?_) fun h => ?_ <;> try exact absurd h (by omega)) | refine oN ?_ | refine oM ?_ ?_ | refine bM ?_ ?_ | refine dR ?_))
  (conv => whnf)
  try simp only [Nat.reduceAdd, Nat.reduceSub]
  refine cF (hw) [0, 1, 2, 3] Tryd.call7 ?_
  rintro _ _ ⟨rfl, rfl⟩
  repeat' (first | exact rfl | ((conv => whnf); first | (refine qX (fun h => ?_) fun h => ?_ <;> try exact absurd h (by omega)) | refine oN ?_ | refine oM ?_ ?_ | refine bM ?_ ?_ | refine dR ?_ | intro _))
  (conv => whnf)
  try simp only [Nat.reduceAdd, Nat.reduceSub]
  refine cF (hs) [0, 1, 2, 3] Tryd.call8 ?_
  rintro _ _ ⟨rfl, rfl⟩
  repeat' (first | exact rfl | ((conv => whnf); first | (refine qX (fun h => ?_) fun h => ?_ <;> try exact absurd h (by omega)) | refine oN ?_ | refine oM ?_ ?_ | refine bM ?_ ?_ | refine dR ?_ | intro _))
  (conv => whnf)
  try simp only [Nat.reduceAdd, Nat.reduceSub]
  refine cF (scoreBegun_c) [] Tryd.call9 ?_
  rintro _ _ ⟨rfl, rfl⟩
  repeat' (first | exact rfl | ((conv => whnf); first | (refine qX (fun h => ?_) fun h => ?_ <;> try exact absurd h (by omega)) | refine oN ?_ | refine oM ?_ ?_ | refine bM ?_ ?_ | refine dR ?_ | intro _))
  (conv => whnf)
  try simp only [Nat.reduceAdd, Nat.reduceSub]
  refine cF (fstBegun_c g hg) [4] Tryd.call10 ?_
  rintro _ _ ⟨rfl, rfl⟩
  repeat' (first | exact rfl | ((conv => whnf); first | (refine qX (fun h => ?_) fun h => ?_ <;> try exact absurd h (by omega)) | refine oN ?_ | refine oM ?_ ?_ | refine bM ?_ ?_ | refine dR ?_ | intro _))
  (conv => whnf)
  exact ⟨[], [(4, gloO g)], 5, .b true, ⟨by rfl, trivial, by simp [gloO]⟩, by simp, rfl, rfl⟩
end Go.Fw

/-
  The laws FstTells and FstBack.
-/
namespace Go.Fw
open Go Go.Proofs

theorem TrimU.len {F : TF} {st sa : Int} {fin : List Int} {arcs : List Arc} (h : TrimU F st sa fin arcs) : fin.length ≤ 100000 ∧ arcs.length ≤ 100000 := by
  rcases h with ⟨h0, rfl, rfl, rfl, rfl⟩ | ⟨h0, p, hp, rfl, rfl, rfl, rfl⟩
  · simp
  · obtain ⟨hr, hs, _⟩ := fstE_rng h0
    have h1 := kfin_len p F.fin F.st.toNat
    have h2 := rkB_le p F.st.toNat
    have h3 := karc_len p F.arcs F.arcs.length
    have h4 := hr.st
    have h5 := hr.arcl
    unfold kT
    split
    · simp only
      omega
    · simp
end Go.Fw

/-
  The law ScoreWalks.
-/
namespace Go.Fw
open Go Go.Proofs

theorem score_fst {F : TF} {u v : List Int} (h : scoreE F u v = 0) : fstE F = 0 ∧ wordE u = 0 ∧ wordE v = 0 := by
  unfold scoreE at h
  by_cases h1 : fstE F = 0
  · rw [if_neg (by omega)] at h
    by_cases h2 : wordE u = 0
    · rw [if_neg (by omega)] at h
      exact ⟨h1, h2, h⟩
    · rw [if_pos h2] at h
      exact absurd h h2
  · rw [if_pos h1] at h
    exact absurd h h1
theorem word_len {u : List Int} (h : wordE u = 0) : u.length ≤ 40 := by
  unfold wordE at h
  by_cases hu : u.length ≤ 40
  · exact hu
  · exfalso
    split at h
    · cases h
    · omega

/-- What the trimmed one's score is. -/
theorem trim_score {F : TF} {u v : List Int} (hsc : scoreE F u v = 0) {st sa : Int} {fin : List Int} {arcs : List Arc} (hU : TrimU F st sa fin arcs) (a b : Nat) : scoreE ⟨st, sa, fin, arcs, a, b⟩ u v = 0 ∧ ∀ {m n : Int}, MinOf (Wt F u v) m → MinOf (Wt ⟨st, sa, fin, arcs, a, b⟩ u v) n → n = m := by
  obtain ⟨h1, h2, h3⟩ := score_fst hsc
  rcases hU with ⟨h0, _⟩ | ⟨_, p, hp, rfl, rfl, rfl, rfl⟩
  · exact absurd h1 h0
  · refine ⟨?_, fun hm hn => trim_min h1 hp hm a b hn⟩
    have := trim_fst h1 p a b
    unfold scoreE
    rw [if_neg (by omega), if_neg (by omega)]
    exact h3

theorem Steps.nil_eq {F : TF} {u v : List Int} {x y : Trip} {c : Int} (h : Steps F u v x [] y c) : x = y ∧ c = 0 := by
  cases h
  exact ⟨rfl, rfl⟩

set_option maxHeartbeats 16000000 in
set_option maxRecDepth 20000 in
theorem scoreWalks_yes (g : Glo) (hg : GloX g) (F : TF) (u v : List Int) (cu cv : Nat) (hl : F.fin.length ≤ 9223372036854775807) (hsc : scoreE F u v = 0) :
    Ct Tryd.prog 3 [fV F, .c (.sl 2 1 0 u.length cu), .c (.sl 3 1 0 v.length cv)] [] (hpQ F u v ++ [(4, gloO g)]) 5 (fun v s => v = .b true ∧ s = ⟨[], [(4, gloO g)], 5⟩) := by
  obtain ⟨hE, hwu, hwv⟩ := score_fst hsc
  have hF := fstE_ok hE
  have htr := trim_c F hl
  unfold TrimPost at htr
  rw [hE] at htr
  refine ctW Tryd.tyOk 20 [] Tryd.func3 rfl (by simp) (by simp) (fr := [(0, fV F), (1, .c (.sl 2 1 0 u.length cu)), (2, .c (.sl 3 1 0 v.length cv))]) rfl ?_
  repeat' (first | exact rfl | ((conv => whnf); first | (refine qX (fun h => ?_) fun h => ?_ <;> try exact absurd h (by omega)) | refine oN ?_ | refine oM ?_ ?_ | refine bM ?_ ?_ | refine dR ?_))
  (conv => whnf)
  try simp only [Nat.reduceAdd, Nat.reduceSub]
  refine cF (walkP_c F u v cu cv hl hsc) [0, 1, 2, 3] Tryd.call7 ?_
  rintro x s (⟨A, hA, hA2, rfl, rfl⟩ | ⟨E, l, sl, hW, hE2, rfl, rfl⟩)
  · have hm := score_min hF hA
    rw [hA2] at hm
    clear hA hA2
    repeat' (first | exact rfl | ((conv => whnf); first | (refine qX (fun h => ?_) fun h => ?_ <;> try exact absurd h (by omega)) | refine oN ?_ | refine oM ?_ ?_ | refine bM ?_ ?_ | refine dR ?_ | intro _))
    (conv => whnf)
    try simp only [Nat.reduceAdd, Nat.reduceSub]
    refine cF (score_b F u v cu cv hl hsc) [0, 1, 2, 3] Tryd.call8 ?_
    rintro _ _ ⟨n, hn, rfl, rfl⟩
    obtain rfl : n = -1 := (hn.1 hsc).1.eq hm fun c => Iff.rfl
    clear hn
    repeat' (first | exact rfl | ((conv => whnf); first | (refine qX (fun h => ?_) fun h => ?_ <;> try exact absurd h (by omega)) | refine oN ?_ | refine oM ?_ ?_ | refine bM ?_ ?_ | refine dR ?_ | intro _))
    (conv => whnf)
    try simp only [Nat.reduceAdd, Nat.reduceSub]
    refine cF (scoreBegun_c) [] Tryd.call9 ?_
    rintro _ _ ⟨rfl, rfl⟩
    repeat' (first | exact rfl | ((conv => whnf); first | (refine qX (fun h => ?_) fun h => ?_ <;> try exact absurd h (by omega)) | refine oN ?_ | refine oM ?_ ?_ | refine bM ?_ ?_ | refine dR ?_ | intro _))
    (conv => whnf)
    try simp only [Nat.reduceAdd, Nat.reduceSub]
    refine cF (fstBegun_c g hg) [4] Tryd.call10 ?_
    rintro _ _ ⟨rfl, rfl⟩
    repeat' (first | exact rfl | ((conv => whnf); first | (refine qX (fun h => ?_) fun h => ?_ <;> try exact absurd h (by omega)) | refine oN ?_ | refine oM ?_ ?_ | refine bM ?_ ?_ | refine dR ?_ | intro _))
    (conv => whnf)
    try simp only [Nat.reduceAdd, Nat.reduceSub]
    refine cF (htr) [0, 1] Tryd.call11 ?_
    rintro _ _ ⟨st, sa, fin, arcs, sp, sq, hU, rfl, rfl⟩
    repeat' (first | exact rfl | ((conv => whnf); first | (refine qX (fun h => ?_) fun h => ?_ <;> try exact absurd h (by omega)) | refine oN ?_ | refine oM ?_ ?_ | refine bM ?_ ?_ | refine dR ?_ | intro _))
    (conv => whnf)
    try simp only [Nat.reduceAdd, Nat.reduceSub]
    have hT := trim_score hsc hU (fin.length + sp) (arcs.length + sq)
    have hfl := hU.len
    clear hU
    refine cF (score_b ⟨st, sa, fin, arcs, fin.length + sp, arcs.length + sq⟩ u v cu cv (show fin.length ≤ 9223372036854775807 by omega) hT.1) [6, 7, 2, 3] Tryd.call8 ?_
    rintro _ _ ⟨k, hk, rfl, rfl⟩
    obtain rfl : k = -1 := hT.2 hm (hk.1 hT.1).1
    clear hk hT
    repeat' (first | exact rfl | ((conv => whnf); first | (refine qX (fun h => ?_) fun h => ?_ <;> try exact absurd h (by omega)) | refine oN ?_ | refine oM ?_ ?_ | refine bM ?_ ?_ | refine dR ?_ | intro _))
    (conv => whnf)
    exact ⟨[], [(4, gloO g)], 5, .b true, ⟨by rfl, trivial, by simp [gloO]⟩, by simp, rfl, rfl⟩
  · have hm := hW.min hF
    obtain ⟨e, c, hK⟩ := hW.walked hE2
    clear hW
    generalize E.2 = n at *
    repeat' (first | exact rfl | ((conv => whnf); first | (refine qX (fun h => ?_) fun h => ?_ <;> try exact absurd h (by omega)) | refine oN ?_ | refine oM ?_ ?_ | refine bM ?_ ?_ | refine dR ?_ | intro _))
    (conv => whnf)
    try simp only [Nat.reduceAdd, Nat.reduceSub]
    refine cF (score_b F u v cu cv hl hsc) [0, 1, 2, 3] Tryd.call8 ?_
    rintro _ _ ⟨m, hn, rfl, rfl⟩
    obtain rfl : m = n := (hn.1 hsc).1.eq hm fun c => Iff.rfl
    clear hn
    repeat' (first | exact rfl | ((conv => whnf); first | (refine qX (fun h => ?_) fun h => ?_ <;> try exact absurd h (by omega)) | refine oN ?_ | refine oM ?_ ?_ | refine bM ?_ ?_ | refine dR ?_ | intro _))
    (conv => whnf)
    try simp only [Nat.reduceAdd, Nat.reduceSub]
    refine cF (scoreBegun_c) [] Tryd.call9 ?_
    rintro _ _ ⟨rfl, rfl⟩
    repeat' (first | exact rfl | ((conv => whnf); first | (refine qX (fun h => ?_) fun h => ?_ <;> try exact absurd h (by omega)) | refine oN ?_ | refine oM ?_ ?_ | refine bM ?_ ?_ | refine dR ?_ | intro _))
    (conv => whnf)
    try simp only [Nat.reduceAdd, Nat.reduceSub]
    refine cF (fstBegun_c g hg) [4] Tryd.call10 ?_
    rintro _ _ ⟨rfl, rfl⟩
    repeat' (first | exact rfl | ((conv => whnf); first | (refine qX (fun h => ?_) fun h => ?_ <;> try exact absurd h (by omega)) | refine oN ?_ | refine oM ?_ ?_ | refine bM ?_ ?_ | refine dR ?_ | intro _))
    (conv => whnf)
    try simp only [Nat.reduceAdd, Nat.reduceSub]
    refine cF (htr) [0, 1] Tryd.call11 ?_
    rintro _ _ ⟨st, sa, fin, arcs, sp, sq, hU, rfl, rfl⟩
    repeat' (first | exact rfl | ((conv => whnf); first | (refine qX (fun h => ?_) fun h => ?_ <;> try exact absurd h (by omega)) | refine oN ?_ | refine oM ?_ ?_ | refine bM ?_ ?_ | refine dR ?_ | intro _))
    (conv => whnf)
    try simp only [Nat.reduceAdd, Nat.reduceSub]
    have hT := trim_score hsc hU (fin.length + sp) (arcs.length + sq)
    have hfl := hU.len
    clear hU
    refine cF (score_b ⟨st, sa, fin, arcs, fin.length + sp, arcs.length + sq⟩ u v cu cv (show fin.length ≤ 9223372036854775807 by omega) hT.1) [7, 8, 2, 3] Tryd.call8 ?_
    rintro _ _ ⟨k, hk, rfl, rfl⟩
    obtain rfl : k = m := hT.2 hm (hk.1 hT.1).1
    clear hk hT hm
    repeat' (first | exact rfl | ((conv => whnf); first | (refine qX (fun h => ?_) fun h => ?_ <;> try exact absurd h (by omega)) | refine oN ?_ | refine oM ?_ ?_ | refine bM ?_ ?_ | refine dR ?_ | intro _))
    (conv => whnf)
    try simp only [Nat.reduceAdd, Nat.reduceSub]
    have hu := word_len hwu
    have hv := word_len hwv
    have hst := hF.st
    have hal := hF.arcl
    have hfl := hF.finl
    have hlen := hK.len
    have hll : (l.length : Int) ≤ 16200 := by
      have h1 := Int.mul_le_mul (show F.st ≤ 200 by omega) (show 1 + (u.length : Int) + (v.length : Int) ≤ 81 by omega) (by omega) (by omega)
      omega
    have hmul : 0 ≤ F.st * (1 + (u.length : Int) + (v.length : Int)) ∧ F.st * (1 + (u.length : Int) + (v.length : Int)) ≤ 16200 :=
      ⟨Int.mul_nonneg (by omega) (by omega), Int.mul_le_mul (show F.st ≤ 200 by omega) (show 1 + (u.length : Int) + (v.length : Int) ≤ 81 by omega) (by omega) (by omega)⟩
    have hcb := hK.way.bd hF
    have hend := hK.e1
    have hfe := hK.fin
    have hsum := hK.sum
    have hway := hK.way
    have hfin := hF.fin _ (getD_mem F.fin e 0 hend)
    clear hK
    refine loopI (fun z : Nat × Trip × Int => ⟨[(1, .c (.sl 2 1 0 u.length cu)), (2, .c (.sl 3 1 0 v.length cv)), (3, .c (.ptr 5 0)), (7, .c (.sl 6 1 0 l.length (l.length + sl))), (8, .i k), (14, .i z.2.1.a), (15, .i z.2.1.b), (16, .i z.2.1.c), (17, .i z.2.2), (18, .i z.1)], hpQ F u v ++ [(4, gloO g), (5, .box 25 (fCells F)), (6, .arr true 3 .int l sl)], 7⟩)
      (fun z => z.1 ≤ l.length ∧ ∃ c', Steps F u v z.2.1 (l.drop z.1) ⟨e, u.length, v.length⟩ c' ∧ z.2.2 + c' = c ∧ 0 ≤ z.2.2 ∧ InBox F u v z.2.1) (fun z => l.length - z.1) (0, st0 F, 0) [] ⟨by rfl, ?_, ?_⟩ ⟨Nat.zero_le _, c, hway, by simp, Int.le_refl _, ?_⟩ ?_
    · simp [st0]
    · simp [gloO, fCells]
    · have := hF.start
      simp only [InBox, st0]
      omega
    · rintro ⟨j, y, cc⟩ ⟨hj, c', hS, hc, h0, hbx⟩
      simp only at hj hS hc h0 hbx ⊢
      have hc' := (hS.bd hF).1
      (conv => whnf)
      refine condP_dec (fun hk2 => ?_) (fun hk2 => ?_)
      · have hlt : j < l.length := by omega
        have e0 : 0 + (j : Int).toNat = j := by omega
        have hgd : l.getD (0 + (j : Int).toNat) EK.int.dflt = l[j] := by rw [e0, List.getD_eq_getElem?_getD, List.getElem?_eq_getElem hlt]; rfl
        rw [List.drop_eq_getElem_cons hlt] at hS
        generalize l[j] = q at *
        cases hS with
        | @cons _ y' _ n w c2 _ he hS2 =>
        have hbx2 := he.box hF hbx
        obtain ⟨a, h1, h2, h3, h4, h5, h6⟩ := he
        subst h5 h6
        have hc2 := (hS2.bd hF).1
        have hn := (List.getElem?_eq_some_iff.1 h1).1
        have hA : F.arcs.getD (0 + (l.getD (0 + (j : Int).toNat) EK.int.dflt).toNat) EK.arc.dflt = a := by
          rw [hgd, Int.toNat_natCast, Nat.zero_add, List.getD_eq_getElem?_getD, h1]
          rfl
        have haok := hF.arc a (List.mem_of_getElem? h1)
        have hq : 0 ≤ l.getD (0 + (j : Int).toNat) EK.int.dflt ∧ l.getD (0 + (j : Int).toNat) EK.int.dflt < F.arcs.length := by omega
        obtain ⟨⟨b1, b2⟩, ⟨b3, b4⟩, b5, b6⟩ := hbx
        have f1 : (F.arcs.getD (0 + (l.getD (0 + (j : Int).toNat) EK.int.dflt).toNat) EK.arc.dflt).f = y.a := by rw [hA]; exact h2
        have f2 : 0 ≤ (F.arcs.getD (0 + (l.getD (0 + (j : Int).toNat) EK.int.dflt).toNat) EK.arc.dflt).i := by rw [hA]; exact haok.i0.1
        have f3 : 0 ≤ (F.arcs.getD (0 + (l.getD (0 + (j : Int).toNat) EK.int.dflt).toNat) EK.arc.dflt).o := by rw [hA]; exact haok.o0.1
        have f4 : 0 ≤ (F.arcs.getD (0 + (l.getD (0 + (j : Int).toNat) EK.int.dflt).toNat) EK.arc.dflt).w ∧ (F.arcs.getD (0 + (l.getD (0 + (j : Int).toNat) EK.int.dflt).toNat) EK.arc.dflt).w ≤ 1000000000 := by rw [hA]; exact ⟨haok.w0, haok.w1⟩
        have f5 : (F.arcs.getD (0 + (l.getD (0 + (j : Int).toNat) EK.int.dflt).toNat) EK.arc.dflt).i > 0 → y.b < u.length ∧ u.getD (0 + y.b.toNat) EK.int.dflt = (F.arcs.getD (0 + (l.getD (0 + (j : Int).toNat) EK.int.dflt).toNat) EK.arc.dflt).i := by
          rw [hA]
          intro hp
          unfold fitE at h3
          rw [if_neg (by omega)] at h3
          rw [Nat.zero_add]
          exact of_decide_eq_true h3
        have f6 : (F.arcs.getD (0 + (l.getD (0 + (j : Int).toNat) EK.int.dflt).toNat) EK.arc.dflt).o > 0 → y.c < v.length ∧ v.getD (0 + y.c.toNat) EK.int.dflt = (F.arcs.getD (0 + (l.getD (0 + (j : Int).toNat) EK.int.dflt).toNat) EK.arc.dflt).o := by
          rw [hA]
          intro hp
          unfold fitE at h4
          rw [if_neg (by omega)] at h4
          rw [Nat.zero_add]
          exact of_decide_eq_true h4
        repeat' (first | exact rfl | ((conv => whnf); first | (refine qX (fun h => ?_) fun h => ?_ <;> try exact absurd h (by omega)) | refine oN ?_ | refine oM ?_ ?_ | refine bM ?_ ?_ | refine dR ?_))
        · have ai : 0 < a.i := by rw [← hA]; omega
          have ao : 0 < a.o := by rw [← hA]; omega
          have e1 : (fitE u y.b a.i).1 = y.b + 1 := by unfold fitE; rw [if_neg (by omega)]
          have e2 : (fitE v y.c a.o).1 = y.c + 1 := by unfold fitE; rw [if_neg (by omega)]
          rw [hA] at f4
          (conv => whnf)
          rw [hA]
          refine ⟨(j + 1, ⟨a.t, (fitE u y.b a.i).1, (fitE v y.c a.o).1⟩, cc + a.w), [], ⟨by rfl, ?_, ?_⟩, ⟨by simp only; omega, _, hS2, by simp only; omega, by simp only; omega, hbx2⟩, by simp only; omega⟩
          · simp [e1, e2]
          · simp [gloO, fCells]
        · have ai : 0 < a.i := by rw [← hA]; omega
          have ao : a.o = 0 := by rw [← hA]; omega
          have e1 : (fitE u y.b a.i).1 = y.b + 1 := by unfold fitE; rw [if_neg (by omega)]
          have e2 : (fitE v y.c a.o).1 = y.c := by unfold fitE; rw [if_pos ao]
          rw [hA] at f4
          (conv => whnf)
          rw [hA]
          refine ⟨(j + 1, ⟨a.t, (fitE u y.b a.i).1, (fitE v y.c a.o).1⟩, cc + a.w), [], ⟨by rfl, ?_, ?_⟩, ⟨by simp only; omega, _, hS2, by simp only; omega, by simp only; omega, hbx2⟩, by simp only; omega⟩
          · simp [e1, e2]
          · simp [gloO, fCells]
        · have ai : a.i = 0 := by rw [← hA]; omega
          have ao : 0 < a.o := by rw [← hA]; omega
          have e1 : (fitE u y.b a.i).1 = y.b := by unfold fitE; rw [if_pos ai]
          have e2 : (fitE v y.c a.o).1 = y.c + 1 := by unfold fitE; rw [if_neg (by omega)]
          rw [hA] at f4
          (conv => whnf)
          rw [hA]
          refine ⟨(j + 1, ⟨a.t, (fitE u y.b a.i).1, (fitE v y.c a.o).1⟩, cc + a.w), [], ⟨by rfl, ?_, ?_⟩, ⟨by simp only; omega, _, hS2, by simp only; omega, by simp only; omega, hbx2⟩, by simp only; omega⟩
          · simp [e1, e2]
          · simp [gloO, fCells]
        · have ai : a.i = 0 := by rw [← hA]; omega
          have ao : a.o = 0 := by rw [← hA]; omega
          have e1 : (fitE u y.b a.i).1 = y.b := by unfold fitE; rw [if_pos ai]
          have e2 : (fitE v y.c a.o).1 = y.c := by unfold fitE; rw [if_pos ao]
          rw [hA] at f4
          (conv => whnf)
          rw [hA]
          refine ⟨(j + 1, ⟨a.t, (fitE u y.b a.i).1, (fitE v y.c a.o).1⟩, cc + a.w), [], ⟨by rfl, ?_, ?_⟩, ⟨by simp only; omega, _, hS2, by simp only; omega, by simp only; omega, hbx2⟩, by simp only; omega⟩
          · simp [e1, e2]
          · simp [gloO, fCells]
      · have ej : j = l.length := by omega
        subst ej
        rw [List.drop_length] at hS
        obtain ⟨hy, hz⟩ := hS.nil_eq
        have q1 : y.a = (e : Nat) := by rw [hy]
        have q2 : y.b = u.length := by rw [hy]
        have q3 : y.c = v.length := by rw [hy]
        have hge : F.fin.getD (0 + y.a.toNat) EK.int.dflt = F.fin.getD e 0 := by rw [q1, Int.toNat_natCast, Nat.zero_add]; rfl
        clear hy hbx hS hway
        repeat' (first | exact rfl | ((conv => whnf); first | (refine qX (fun h => ?_) fun h => ?_ <;> try exact absurd h (by omega)) | refine oN ?_ | refine oM ?_ ?_ | refine bM ?_ ?_ | refine dR ?_))
        all_goals try (exfalso; omega)
        (conv => whnf)
        exact ⟨[], [(4, gloO g)], 5, .b true, ⟨by rfl, trivial, by simp [gloO]⟩, by simp [hlen], rfl, rfl⟩

theorem scoreWalks_c (g : Glo) (hg : GloX g) (F : TF) (u v : List Int) (cu cv : Nat) (hl : F.fin.length ≤ 9223372036854775807) :
    Ct Tryd.prog 3 [fV F, .c (.sl 2 1 0 u.length cu), .c (.sl 3 1 0 v.length cv)] [] (hpQ F u v ++ [(4, gloO g)]) 5 (fun v s => v = .b true ∧ s = ⟨[], [(4, gloO g)], 5⟩) := by
  by_cases h : scoreE F u v = 0
  · exact scoreWalks_yes g hg F u v cu cv hl h
  · exact scoreWalks_no g hg F u v cu cv hl h
end Go.Fw
