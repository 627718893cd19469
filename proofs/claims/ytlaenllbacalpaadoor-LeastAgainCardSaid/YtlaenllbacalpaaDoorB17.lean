/-
  Two states have the same class just where each word costs the same from both.
-/
import Derived.Test.YtlaenllbacalpaaDoorB16
import Derived.Test.YtlaenllbacalpaaDoorB15
import Derived.Test.YtlaenllbacalpaaDoorB14
import Derived.Test.YtlaenllbacalpaaDoorB11
import Derived.Test.YtlaenllbacalpaaDoorB13
import Derived.Test.YtlaenllbacalpaaDoorB07
import Derived.Test.YtlaenllbacalpaaDoorB10

set_option linter.unusedSimpArgs false
set_option linter.unusedVariables false

namespace Go.Fw
def CW (D : TF) (q : Int) (w : List Int) (c : Int) : Prop := ∃ t d, RdW D.arcs q w t d ∧ D.fin.getD t.toNat 0 ≠ -1 ∧ c = d + D.fin.getD t.toNat 0
theorem RdW.cons_inv {L : List Arc} {s t c x : Int} {u : List Int} (h : RdW L s (x :: u) t c) : ∃ a ∈ L, a.f = s ∧ a.i = x ∧ ∃ d, RdW L a.t u t d ∧ c = a.w + d := by
  generalize hw : x :: u = w at h
  cases h with
  | nil => cases hw
  | cons ha h =>
    have e := List.cons.inj hw
    exact ⟨_, ha, rfl, e.1.symm, _, e.2 ▸ h, rfl⟩
theorem CW.nil {D : TF} {q c : Int} : CW D q [] c ↔ D.fin.getD q.toNat 0 ≠ -1 ∧ c = D.fin.getD q.toNat 0 := by
  constructor
  · rintro ⟨t, d, h1, h2, h3⟩
    obtain ⟨rfl, rfl⟩ := h1.none rfl
    exact ⟨h2, by omega⟩
  · rintro ⟨h1, h2⟩
    exact ⟨q, 0, .nil _, h1, by omega⟩
theorem CW.cons {D : TF} {q c x : Int} {u : List Int} : CW D q (x :: u) c ↔ ∃ a ∈ D.arcs, a.f = q ∧ a.i = x ∧ CW D a.t u (c - a.w) := by
  constructor
  · rintro ⟨t, d, h1, h2, h3⟩
    obtain ⟨a, ha, e1, e2, d', h4, h5⟩ := h1.cons_inv
    exact ⟨a, ha, e1, e2, t, d', h4, h2, by omega⟩
  · rintro ⟨a, ha, rfl, rfl, t, d, h1, h2, h3⟩
    exact ⟨t, a.w + d, .cons ha h1, h2, by omega⟩
theorem outA_mem {D : TF} {cls : List Int} {n : Int} {x : Int × Int × Int} : ∀ {k : Nat}, x ∈ outA D cls n k ↔ ∃ j, j < k ∧ (D.arcs.getD j aD).f = n ∧ x = ((D.arcs.getD j aD).i, (D.arcs.getD j aD).w, cls.getD (D.arcs.getD j aD).t.toNat 0)
  | 0 => by simp [outA]
  | k + 1 => by
    have ih := outA_mem (D := D) (cls := cls) (n := n) (x := x) (k := k)
    unfold outA
    by_cases e : (D.arcs.getD k aD).f = n
    · rw [if_pos e, List.mem_append, ih, List.mem_singleton]
      constructor
      · rintro (⟨j, h1, h2⟩ | h)
        · exact ⟨j, by omega, h2⟩
        · exact ⟨k, by omega, e, h⟩
      · rintro ⟨j, h1, h2, h3⟩
        by_cases ej : j = k
        · subst ej; exact .inr h3
        · exact .inl ⟨j, by omega, h2, h3⟩
    · rw [if_neg e, ih]
      constructor
      · rintro ⟨j, h1, h2⟩; exact ⟨j, by omega, h2⟩
      · rintro ⟨j, h1, h2, h3⟩
        by_cases ej : j = k
        · subst ej; exact absurd h2 e
        · exact ⟨j, by omega, h2, h3⟩
theorem outA_all {D : TF} {cls : List Int} {n : Int} {x : Int × Int × Int} : x ∈ outA D cls n D.arcs.length ↔ ∃ a ∈ D.arcs, a.f = n ∧ x = (a.i, a.w, cls.getD a.t.toNat 0) := by
  rw [outA_mem]
  constructor
  · rintro ⟨j, h1, h2, h3⟩; exact ⟨_, getD_mem D.arcs j aD h1, h2, h3⟩
  · rintro ⟨a, ha, h2, h3⟩
    obtain ⟨j, hj, rfl⟩ := getD_ix ha
    exact ⟨j, hj, h2, h3⟩
structure DetD (D : TF) : Prop where
  srt : Srt D.arcs
  one : ∀ a ∈ D.arcs, ∀ b ∈ D.arcs, a.f = b.f → a.i = b.i → a = b
theorem outA_srt {D : TF} {cls : List Int} {n : Int} (h : DetD D) : ∀ k, k ≤ D.arcs.length → (outA D cls n k).Pairwise fun x y => x.1 < y.1
  | 0, _ => List.Pairwise.nil
  | k + 1, hk => by
    have ih := outA_srt (cls := cls) (n := n) h k (by omega)
    unfold outA
    split
    · rename_i e
      refine List.pairwise_append.2 ⟨ih, List.pairwise_singleton _ _, fun x hx y hy => ?_⟩
      rw [List.mem_singleton] at hy
      subst hy
      obtain ⟨j, hj, e2, rfl⟩ := outA_mem.1 hx
      have hmj := getD_mem D.arcs j aD (by omega)
      have hmk := getD_mem D.arcs k aD (by omega)
      have e3 : D.arcs.getD j aD = D.arcs[j]'(by omega) := by simp [List.getD, show j < D.arcs.length by omega]
      have e4 : D.arcs.getD k aD = D.arcs[k]'(by omega) := by simp [List.getD, show k < D.arcs.length by omega]
      have hah := List.pairwise_iff_getElem.1 h.srt j k (by omega) (by omega) hj
      rw [← e3, ← e4, aheadB_iff] at hah
      by_cases hi : (D.arcs.getD j aD).i = (D.arcs.getD k aD).i
      · have := h.one _ hmj _ hmk (e2.trans e.symm) hi
        rw [this] at hah
        omega
      · show (D.arcs.getD j aD).i < (D.arcs.getD k aD).i
        omega
    · exact ih
theorem srt_ext : ∀ {l m : List (Int × Int × Int)}, l.Pairwise (fun x y => x.1 < y.1) → m.Pairwise (fun x y => x.1 < y.1) → (∀ x, x ∈ l ↔ x ∈ m) → l = m
  | [], [], _, _, _ => rfl
  | [], y :: m, _, _, h => by have := (h y).2 (by simp); cases this
  | x :: l, [], _, _, h => by have := (h x).1 (by simp); cases this
  | x :: l, y :: m, hl, hm, h => by
    rw [List.pairwise_cons] at hl hm
    have e : x = y := by
      have h1 := (h x).1 (by simp)
      have h2 := (h y).2 (by simp)
      rcases List.mem_cons.1 h1 with h1 | h1
      · exact h1
      · rcases List.mem_cons.1 h2 with h2 | h2
        · exact h2.symm
        · have := hm.1 x h1
          have := hl.1 y h2
          omega
    subst e
    rw [srt_ext hl.2 hm.2 fun z => ?_]
    have hz := h z
    rw [List.mem_cons, List.mem_cons] at hz
    constructor
    · intro hzl
      rcases hz.1 (.inr hzl) with e | g
      · subst e; have := hl.1 z hzl; omega
      · exact g
    · intro hzm
      rcases hz.2 (.inr hzm) with e | g
      · subst e; have := hm.1 z hzm; omega
      · exact g
def Psh (D : TF) : Prop := ∀ q : Nat, q < D.st.toNat → (∃ w, CW D q w 0) ∧ ∀ w c, CW D q w c → 0 ≤ c
section
variable {D : TF} {cls : List Int} (hF : DFst D) (hc : ClsOk D cls) (hd : DetD D) (hp : Psh D)
include hF hc
theorem cls_cw : ∀ (w : List Int) (i j : Nat) (c : Int), i < D.st.toNat → j < D.st.toNat → cls.getD i 0 = cls.getD j 0 → CW D i w c → CW D j w c
  | [], i, j, c, hi, hj, he, h => by
    obtain ⟨e1, e2⟩ := (hc.iff hF hi hj).1 he
    rw [CW.nil, Int.toNat_natCast] at h ⊢
    rw [← e1]
    exact h
  | x :: u, i, j, c, hi, hj, he, h => by
    obtain ⟨e1, e2⟩ := (hc.iff hF hi hj).1 he
    obtain ⟨a, ha, f1, f2, f3⟩ := CW.cons.1 h
    have hm : (a.i, a.w, cls.getD a.t.toNat 0) ∈ outA D cls j D.arcs.length := by rw [← e2]; exact outA_all.2 ⟨a, ha, f1, rfl⟩
    obtain ⟨b, hb, g1, g2⟩ := outA_all.1 hm
    simp only [Prod.mk.injEq] at g2
    have ra := hF.arc a ha
    have rb := hF.arc b hb
    have ih := cls_cw u a.t.toNat b.t.toNat (c - a.w) (by omega) (by omega) g2.2.2 (by rw [show ((a.t.toNat : Nat) : Int) = a.t by omega]; exact f3)
    rw [show ((b.t.toNat : Nat) : Int) = b.t by omega, g2.2.1] at ih
    exact CW.cons.2 ⟨b, hb, g1, by rw [← g2.1]; exact f2, ih⟩
include hd hp
theorem cw_cls : ∀ (r : Nat) (i j : Nat), i < D.st.toNat → j < D.st.toNat → LvA D.arcs r i → LvA D.arcs r j → (∀ w c, CW D i w c ↔ CW D j w c) → cls.getD i 0 = cls.getD j 0
  | 0, i, j, hi, hj, h1, h2, h => by have := h1 [] _ _ (.nil _); simp at this
  | r + 1, i, j, hi, hj, h1, h2, h => by
    have incl : ∀ i j : Nat, i < D.st.toNat → j < D.st.toNat → LvA D.arcs (r + 1) i → LvA D.arcs (r + 1) j → (∀ w c, CW D i w c ↔ CW D j w c) → ∀ x ∈ outA D cls i D.arcs.length, x ∈ outA D cls j D.arcs.length := by
      intro i j hi hj h1 h2 h x hx
      obtain ⟨a, ha, f1, rfl⟩ := outA_all.1 hx
      have ra := hF.arc a ha
      have ea : ((a.t.toNat : Nat) : Int) = a.t := by omega
      obtain ⟨⟨v, hv⟩, ha0⟩ := hp a.t.toNat (by omega)
      rw [ea] at hv ha0
      have hi1 : CW D i (a.i :: v) a.w := CW.cons.2 ⟨a, ha, f1, rfl, by rw [show a.w - a.w = 0 by omega]; exact hv⟩
      obtain ⟨b, hb, g1, g2, g3⟩ := CW.cons.1 ((h _ _).1 hi1)
      have rb := hF.arc b hb
      have eb : ((b.t.toNat : Nat) : Int) = b.t := by omega
      obtain ⟨⟨v', hv'⟩, hb0⟩ := hp b.t.toNat (by omega)
      rw [eb] at hv' hb0
      have q1 := hb0 _ _ g3
      have hj1 : CW D j (a.i :: v') b.w := CW.cons.2 ⟨b, hb, g1, g2, by rw [show b.w - b.w = 0 by omega]; exact hv'⟩
      obtain ⟨a', ha', p1, p2, p3⟩ := CW.cons.1 ((h _ _).2 hj1)
      have ea' := hd.one a' ha' a ha (p1.trans f1.symm) p2
      subst ea'
      have q2 := ha0 _ _ p3
      have hwe : a'.w = b.w := by omega
      have hall : ∀ w c, CW D a'.t.toNat w c ↔ CW D b.t.toNat w c := fun w c => by
        rw [ea, eb]
        constructor
        · intro hw
          have : CW D i (a'.i :: w) (c + a'.w) := CW.cons.2 ⟨a', ha', f1, rfl, by rw [show c + a'.w - a'.w = c by omega]; exact hw⟩
          obtain ⟨b', hb', k1, k2, k3⟩ := CW.cons.1 ((h _ _).1 this)
          have := hd.one b' hb' b hb (k1.trans g1.symm) (k2.trans g2.symm)
          subst this
          rwa [show c + a'.w - b'.w = c by omega] at k3
        · intro hw
          have : CW D j (a'.i :: w) (c + b.w) := CW.cons.2 ⟨b, hb, g1, g2, by rw [show c + b.w - b.w = c by omega]; exact hw⟩
          obtain ⟨b', hb', k1, k2, k3⟩ := CW.cons.1 ((h _ _).2 this)
          have := hd.one b' hb' a' ha' (k1.trans f1.symm) k2
          subst this
          rwa [show c + b.w - b'.w = c by omega] at k3
      have hce := cw_cls r a'.t.toNat b.t.toNat (by omega) (by omega) (by rw [ea]; exact LvA.on ha' (f1 ▸ h1)) (by rw [eb]; exact LvA.on hb (g1 ▸ h2)) hall
      exact outA_all.2 ⟨b, hb, g1, by rw [g2, hwe, hce]⟩
    refine (hc.iff hF hi hj).2 ⟨?_, srt_ext (outA_srt hd _ (Nat.le_refl _)) (outA_srt hd _ (Nat.le_refl _)) fun x => ⟨incl i j hi hj h1 h2 h x, incl j i hj hi h2 h1 (fun w c => (h w c).symm) x⟩⟩
    have h0 := fun c => h [] c
    simp only [CW.nil, Int.toNat_natCast] at h0
    by_cases e : D.fin.getD i 0 = -1
    · by_cases e2 : D.fin.getD j 0 = -1
      · rw [e, e2]
      · exact absurd e ((h0 _).2 ⟨e2, rfl⟩).1
    · exact ((h0 _).1 ⟨e, rfl⟩).2
end
end Go.Fw

namespace Go.Fw
open Go Go.Proofs
def TrimTo (p : Nat → Bool) (k : Nat) (to : List Int) (n : Nat) : Prop := to.length = n ∧ ∀ j, j < k → p j = true → to.getD j 0 = (rkB p j : Nat)
end Go.Fw

namespace Go.Fw
open Go Go.Proofs
abbrev cWo (U : TF) (fi ai ci pi si : Nat) (rn rc pn pc sn sc : Nat) : List SC := [.i U.st, .i U.start, .sl fi 1 0 U.fin.length U.capF, .sl ai 5 0 U.arcs.length U.capA, .sl ci 1 0 rn rc, .sl pi 1 0 pn pc, .sl si 1 0 sn sc]
abbrev zero36 : List SC := [.i 0, .i 0, .v (.slice none 0 0), .v (.slice none 0 0), .v (.slice none 0 0), .v (.slice none 0 0), .v (.slice none 0 0)]
abbrev hpWo (F U : TF) (spU sqU : Nat) (rows : List Sli) (m : List (Addr × List Int × Nat)) (par sym : List Int) (sr sp sy : Nat) : List (Nat × SO) := hpF F ++ [(2, .box 25 (fCells F)), (3, .box 36 zero36), (4, .box 36 (cWo U 5 6 7 9 10 rows.length (rows.length + sr) par.length (par.length + sp) sym.length (sym.length + sy))), (5, .arr true 3 .int U.fin spU), (6, .arr true 50 .arc U.arcs sqU), (7, .arr true 22 .sli rows sr), (8, .pool 3 .int m), (9, .arr true 3 .int par sp), (10, .arr true 3 .int sym sy)]
theorem Tab2.one {xs : List Int} {sp : Nat} {m : List (Addr × List Int × Nat)} {y : Sli} (h : Frz [] xs sp xs.length (xs.length + sp) m y) (hx : xs ≠ []) : Tab2 m [y] 1 (fun _ => xs) := by
  cases h with
  | nil h => exact absurd h hx
  | @own a h hb =>
    have hl : lkA [(a, xs, sp)] a = some (xs, sp) := by simp [lkA]
    refine ⟨rfl, fun j hj => ?_, fun j hj => ?_, fun s t b h1 h2 h3 => by omega⟩
    · have : j = 0 := by omega
      subst this
      exact Hd.of_some rfl hl rfl (Nat.le_refl _)
    · have : j = 0 := by omega
      subst this
      exact rowA_some hl
end Go.Fw

namespace Go.Fw
open Go Go.Proofs
theorem Tab2.congr {m : List (Addr × List Int × Nat)} {rows : List Sli} {N : Nat} {L L' : Nat → List Int} (h : Tab2 m rows N L) (he : ∀ j, j < N → L j = L' j) : Tab2 m rows N L' :=
  ⟨h.len, h.hd, fun j hj => by rw [← he j hj]; exact h.row j hj, h.dist⟩
theorem Tab2.push {m m' : List (Addr × List Int × Nat)} {rows : List Sli} {vs : List (List Int)} {xs : List Int} {sp : Nat} {y : Sli} (h : Tab2 m rows vs.length (fun j => vs.getD j [])) (hf : Frz m xs sp xs.length (xs.length + sp) m' y) (hx : xs ≠ []) :
    Tab2 m' (rows ++ [y]) (vs ++ [xs]).length (fun j => (vs ++ [xs]).getD j []) := by
  cases hf with
  | nil h => exact absurd h hx
  | @own a ha hb =>
    have hlen := h.len
    have hl : lkA ((a, xs, sp) :: m) a = some (xs, sp) := by simp [lkA]
    have hko : ∀ b, b ≠ a → lkA ((a, xs, sp) :: m) b = lkA m b := fun b hb => by simp only [lkA, if_neg (fun e => hb (e.symm) : ¬ a = b)]
    have hna : ∀ j, j < vs.length → (rows.getD j EK.sli.dflt).a ≠ some a := fun j hj e => by
      obtain ⟨y, g1, _⟩ := (h.hd j hj).some e
      rw [ha] at g1; cases g1
    have hkeep := h.keep (m' := (a, xs, sp) :: m) fun j b hj hb => hko b fun e => hna j hj (e ▸ hb)
    refine ⟨by simp [hlen], fun j hj => ?_, fun j hj => ?_, fun s t b h1 h2 h3 => ?_⟩
    · rw [snoc_getD]
      by_cases e : j = rows.length
      · rw [if_pos e]; exact Hd.of_some rfl hl rfl (Nat.le_refl _)
      · rw [if_neg e]; exact hkeep.hd j (by simp at hj; omega)
    · rw [snoc_getD, snoc_getD]
      by_cases e : j = rows.length
      · rw [if_pos e, if_pos (by omega)]; exact rowA_some hl
      · rw [if_neg e, if_neg (by omega)]; exact hkeep.row j (by simp at hj; omega)
    · rw [snoc_getD, snoc_getD]
      simp only [List.length_append, List.length_singleton] at h1 h2
      by_cases e : s = rows.length <;> by_cases e2 : t = rows.length
      · omega
      · rw [if_pos e, if_neg e2]
        intro q
        cases q
        exact hna t (by omega)
      · rw [if_neg e, if_pos e2]
        intro q1 q2
        cases q2
        exact hna s (by omega) q1
      · rw [if_neg e, if_neg e2]; exact h.dist s t b (by omega) (by omega) h3
def iniV (n k : Nat) : List Int := List.replicate k (-1) ++ List.replicate (n - k) 0
def WordsPost (F : TF) (v : SV) (s : S) : Prop := ∃ (U : TF) (W vs : List (List Int)) (par sym : List Int) (i : Nat) (c : Int) (ok : Bool) (rows : List Sli) (m : List (Addr × List Int × Nat)) (spU sqU sr sp sy : Nat),
  IsUs F U ∧ U.capF = U.fin.length + spU ∧ U.capA = U.arcs.length + sqU ∧ WSt U W vs par sym i c ∧ Tab2 m rows vs.length (fun j => vs.getD j []) ∧ (ok = true ∧ W.length ≤ 200 ∧ i = W.length ∧ c = 1 ∨ ok = false ∧ W.length = 201) ∧
  v = .tup [.agg (cWo U 2 3 4 6 7 rows.length (rows.length + sr) par.length (par.length + sp) sym.length (sym.length + sy)), .c (.b ok)] ∧
  s = ⟨[], [(2, .arr true 3 .int U.fin spU), (3, .arr true 50 .arc U.arcs sqU), (4, .arr true 22 .sli rows sr), (5, .pool 3 .int m), (6, .arr true 3 .int par sp), (7, .arr true 3 .int sym sy)], 8⟩
structure WZ where
  W : List (List Int)
  vs : List (List Int)
  par : List Int
  sym : List Int
  rows : List Sli
  m : List (Addr × List Int × Nat)
  sr : Nat
  sp : Nat
  sy : Nat
structure WOkZ (U : TF) (z : WZ) (i : Nat) (c : Int) : Prop where
  st : WSt U z.W z.vs z.par z.sym i c
  tab : Tab2 z.m z.rows z.vs.length (fun j => z.vs.getD j [])
  len : z.W.length ≤ 200
end Go.Fw

namespace Go.Fw
open Go Go.Proofs
def endG (l fin : List Int) : Nat → Int
  | 0 => -1
  | k + 1 => less (endG l fin k) (plus (l.getD k 0) (fin.getD k 0))
end Go.Fw

namespace Go.Fw
open Go Go.Proofs
abbrev wV (U : TF) (rows : List Sli) (par sym : List Int) (rc pc sc : Nat) : SV := .a (.agg (cWo U 0 1 2 4 5 rows.length rc par.length pc sym.length sc))
abbrev hpWd (U : TF) (rows : List Sli) (m : List (Addr × List Int × Nat)) (par sym : List Int) : List (Nat × SO) := [(0, .arr false 3 .int U.fin 0), (1, .arr false 50 .arc U.arcs 0), (2, .arr false 22 .sli rows 0), (3, .pool 3 .int m), (4, .arr false 3 .int par 0), (5, .arr false 3 .int sym 0)]
theorem getD_idxW {W : List (List Int)} {w : List Int} (h : w ∈ W) : W.getD (W.idxOf w) [] = w := by
  have h1 := List.idxOf_lt_length_of_mem h
  simp only [List.getD, List.getElem?_eq_getElem h1, Option.getD_some]
  exact List.getElem_idxOf h1
def onI (W : List (List Int)) (i : Nat) (c : Int) : Int := if W.getD i [] ++ [c] ∈ W then ((W.idxOf (W.getD i [] ++ [c]) : Nat) : Int) else -1
section
variable {U : TF} {W vs : List (List Int)} {par sym : List Int} {i : Nat} {c : Int}
theorem WSt.at_on (h : WSt U W vs par sym W.length 1) (hi : i < W.length) {k : Nat} (hk : k < W.length) : (par.getD k 0 = i ∧ sym.getD k 0 = c) ↔ (W.getD k [] = W.getD i [] ++ [c]) := by
  by_cases h0 : k = 0
  · subst h0
    rw [h.p0, h.w0]
    constructor
    · rintro ⟨e, _⟩; omega
    · intro e; simp at e
  · obtain ⟨j, g1, g2, g3, g4, g5⟩ := h.on k (by omega) hk
    rw [g2, g4]
    constructor
    · rintro ⟨e1, e2⟩
      have : j = i := by omega
      rw [this, e2]
    · intro e
      have e2 := List.append_inj' e rfl
      have := h.nd j i (by omega) hi e2.1
      exact ⟨by omega, (List.cons.inj e2.2).1⟩
theorem WSt.gt (h : WSt U W vs par sym W.length 1) (hi : i < W.length) {k : Nat} (hk : k < W.length) (e : W.getD k [] = W.getD i [] ++ [c]) : i < k := by
  have h0 : k ≠ 0 := fun h0 => by rw [h0, h.w0] at e; simp at e
  obtain ⟨j, g1, g2, g3, g4, g5⟩ := h.on k (by omega) hk
  have e1 := (h.at_on hi hk).2 e
  omega
theorem WSt.onI_yes (h : WSt U W vs par sym W.length 1) {k : Nat} (hk : k < W.length) (e : W.getD k [] = W.getD i [] ++ [c]) : onI W i c = k := by
  have hm : W.getD i [] ++ [c] ∈ W := getD_mem2.2 ⟨k, hk, e⟩
  have h1 := List.idxOf_lt_length_of_mem hm
  have h2 : W.getD (W.idxOf (W.getD i [] ++ [c])) [] = W.getD i [] ++ [c] := getD_idxW hm
  unfold onI
  rw [if_pos hm]
  have := h.nd _ _ h1 hk (h2.trans e.symm)
  omega
end
def endW (U : TF) (vs : List (List Int)) (i : Nat) : Int := endG (vs.getD i []) U.fin U.st.toNat
end Go.Fw

/-
  What a beginning costs as a word.
-/
namespace Go.Fw
theorem endG_min {l fin : List Int} {P : Nat → Int → Prop} {n : Nat} (hl : ∀ q, q < n → MinOf (P q) (l.getD q 0)) (hf : ∀ q : Nat, -1 ≤ fin.getD q 0) : ∀ k, k ≤ n → MinOf (fun c => ∃ q, q < k ∧ ∃ d, P q d ∧ fin.getD q 0 ≠ -1 ∧ c = d + fin.getD q 0) (endG l fin k)
  | 0, _ => .inl ⟨rfl, fun c ⟨q, h, _⟩ => by omega⟩
  | k + 1, hk => by
    have ih := endG_min hl hf k (by omega)
    have hq : MinOf (fun c => fin.getD k 0 ≠ -1 ∧ c = fin.getD k 0) (fin.getD k 0) := by
      by_cases e : fin.getD k 0 = -1
      · exact .inl ⟨e, fun c h => h.1 e⟩
      · have := hf k
        exact .inr ⟨by omega, ⟨e, rfl⟩, fun c h => by omega⟩
    unfold endG
    refine (MinOf.or ih ((hl k (by omega)).add hq)).cong fun c => ?_
    constructor
    · rintro (⟨q, h1, h2⟩ | ⟨a, b, h1, ⟨h2, h3⟩, h4⟩)
      · exact ⟨q, by omega, h2⟩
      · exact ⟨k, by omega, a, h1, h2, by omega⟩
    · rintro ⟨q, h1, d, h2, h3, h4⟩
      by_cases e : q = k
      · subst e; exact .inr ⟨d, _, h2, ⟨h3, rfl⟩, h4⟩
      · exact .inl ⟨q, by omega, d, h2, h3, h4⟩
theorem endW_min {U : TF} {W vs : List (List Int)} {par sym : List Int} {i : Nat} {c : Int} (hU : ∀ a ∈ U.arcs, 0 ≤ a.t ∧ a.t < U.st) (hs : 0 ≤ U.start ∧ U.start < U.st) (hf : ∀ q : Nat, -1 ≤ U.fin.getD q 0) (h : WSt U W vs par sym i c) {j : Nat} (hj : j < W.length) : MinOf (CW U U.start (W.getD j [])) (endW U vs j) := by
  have hv := h.vec j hj
  unfold endW
  refine (endG_min (P := fun q c => RdW U.arcs U.start (W.getD j []) q c) (n := U.st.toNat) hv.min hf U.st.toNat (Nat.le_refl _)).cong fun x => ?_
  constructor
  · rintro ⟨q, h1, d, h2, h3, h4⟩
    exact ⟨q, d, h2, by rw [Int.toNat_natCast]; exact h3, by rw [Int.toNat_natCast]; exact h4⟩
  · rintro ⟨t, d, h1, h2, h3⟩
    have hr := h1.rng hU hs
    exact ⟨t.toNat, by omega, d, by rw [show ((t.toNat : Nat) : Int) = t by omega]; exact h1, h2, h3⟩
end Go.Fw

/-
  What words cost, told by the states that are made.
-/
namespace Go.Fw
section
variable {U : TF} (hU : ∀ a ∈ U.arcs, (0 ≤ a.f ∧ a.f < U.st) ∧ (0 ≤ a.t ∧ a.t < U.st) ∧ 0 ≤ a.w ∧ a.w ≤ 1000000000)
  (hlet : ∀ a ∈ U.arcs, 1 ≤ a.i ∧ a.i ≤ 9) (hfin : ∀ j : Nat, -1 ≤ U.fin.getD j 0) {st : DS} (h : RI U st.1.length 1 st)
include hU hfin h
theorem RI.endm {w : List Int} {q d : Int} (hr : RdW st.2 0 w q d) : MinOf (CW U U.start w) (if finD U (st.1.getD q.toNat []) = -1 then -1 else d + finD U (st.1.getD q.toNat [])) := by
  have hs := h.sub hU hr
  have hm := finD_min hs.b0 hfin
  have hr0 := hs.r0
  by_cases e : finD U (st.1.getD q.toNat []) = -1
  · rw [if_pos e]
    refine .inl ⟨rfl, fun c hc => ?_⟩
    obtain ⟨t, d', h1, h2, rfl⟩ := hc
    obtain ⟨f, hf, rfl⟩ := hs.all _ _ h1
    exact (hm.le (c := _) ⟨f, hf, h2, rfl⟩).1 e
  · rw [if_neg e]
    have hlow := hm.low
    obtain ⟨f, hf, h2, h3⟩ := hm.is e
    refine .inr ⟨by omega, ⟨f.a, d + f.b, (hs.min f hf).is (by have := hs.b0 f hf; omega), h2, by omega⟩, fun c hc => ?_⟩
    obtain ⟨t, d', h1, h2, rfl⟩ := hc
    obtain ⟨g, hg, rfl⟩ := hs.all _ _ h1
    have := (hm.le (c := _) ⟨g, hg, h2, rfl⟩).2
    have := ((hs.min g hg).le h1).2
    omega
theorem RI.endW {W vs : List (List Int)} {par sym : List Int} {i : Nat} {c : Int} (hs : 0 ≤ U.start ∧ U.start < U.st) (hw : WSt U W vs par sym i c) {j : Nat} (hj : j < W.length) {q d : Int} (hr : RdW st.2 0 (W.getD j []) q d) :
    endW U vs j = if finD U (st.1.getD q.toNat []) = -1 then -1 else d + finD U (st.1.getD q.toNat []) :=
  (endW_min (fun a ha => (hU a ha).2.1) hs hfin hw hj).eq (h.endm hU hfin hr) fun c => Iff.rfl
end
end Go.Fw

/-
  The best way of all; what is pushed costs the same but for what is told; in the plain.
-/
namespace Go.Fw
open Go
theorem begun_getD {F : TF} {n : Nat} (h : n < F.st.toNat) : (begun F).getD n 0 = begF F.start n := by
  simp [begun, List.getD, h]
theorem begun_ln (F : TF) : (begun F).length = F.st.toNat := by simp [begun]
theorem RN.way {F : TF} (hF : FOk F) {k v : Nat} {c : Int} (h : RN F.arcs (begun F) k v c) : ∃ u w, Way F.arcs F.start u w (v : Int) c := by
  induction h with
  | base h hc =>
    rename_i v
    rw [begun_ln] at h
    rw [begun_getD h] at hc ⊢
    unfold begF at hc ⊢
    split at hc
    · rename_i e
      rw [if_pos e, e]
      exact ⟨[], [], .nil _⟩
    · exact absurd rfl hc
  | step h ha ih =>
    rename_i k a c
    obtain ⟨u, w, ih⟩ := ih
    have h1 := (hF.arc a ha).f0
    have h2 := (hF.arc a ha).t0
    have e1 : (a.f.toNat : Int) = a.f := by omega
    have e2 : (a.t.toNat : Int) = a.t := by omega
    rw [e1] at ih
    rw [e2]
    exact ⟨_, _, ih.snoc ha⟩
theorem Way.rnOf {L : List Arc} {c0 : List Int} {s t : Int} {u v : List Int} {d : Int} (h : Way L s u v t d) : ∀ {k : Nat} {c : Int}, RN L c0 k s.toNat c → ∃ k', RN L c0 k' t.toNat (c + d) := by
  induction h with
  | nil s => intro k c h; exact ⟨k, by simpa using h⟩
  | cons ha h ih =>
    intro k c hr
    obtain ⟨k', h'⟩ := ih (.step hr ha)
    exact ⟨k', by rw [← Int.add_assoc]; exact h'⟩
theorem Way.rn {F : TF} (hF : FOk F) {t : Int} {u v : List Int} {d : Int} (h : Way F.arcs F.start u v t d) : ∃ k, RN F.arcs (begun F) k t.toNat d := by
  have hs := hF.start
  have h1 : F.start.toNat < F.st.toNat := by omega
  have h2 : (begun F).getD F.start.toNat 0 = 0 := by
    rw [begun_getD h1]
    unfold begF
    exact if_pos (by omega)
  have h3 : RN F.arcs (begun F) 0 F.start.toNat 0 := by
    have := RN.base (l := F.arcs) (c0 := begun F) (v := F.start.toNat) (by rw [begun_ln]; exact h1) (by rw [h2]; decide)
    rwa [h2] at this
  obtain ⟨k, hk⟩ := h.rnOf h3
  exact ⟨k, by simpa using hk⟩
theorem Sol.low {F : TF} (hF : FOk F) {D : List Int} (h : Sol F.arcs (begun F) D) : ∀ v, v < (begun F).length → -1 ≤ D.getD v 0 := by
  intro v hv
  by_cases e : D.getD v 0 = -1
  · omega
  · obtain ⟨k, _, hk⟩ := h.s3 v hv e
    have := hk.pos hF.arc (fun v hv => ((begun_bd hF).bd v hv).1)
    omega
structure Pot (F : TF) (D : List Int) : Prop where
  len : D.length = F.fin.length
  low : ∀ v, v < F.fin.length → -1 ≤ D.getD v 0
  fin : ∀ v, v < F.fin.length → Le (D.getD v 0) (F.fin.getD v 0)
  arc : ∀ a ∈ F.arcs, D.getD a.t.toNat 0 ≠ -1 → Le (D.getD a.f.toNat 0) (D.getD a.t.toNat 0 + a.w)
structure PushIs (F : TF) (D : List Int) (X : TF) : Prop where
  st : X.st = F.st
  start : X.start = F.start
  fin : X.fin = pushF D F.fin F.fin.length
  arcs : X.arcs = pushL D F.arcs
theorem pushL_mem {D : List Int} {l : List Arc} {b : Arc} : b ∈ pushL D l ↔ ∃ a ∈ l, D.getD a.f.toNat 0 ≠ -1 ∧ D.getD a.t.toNat 0 ≠ -1 ∧ b = ⟨a.f, a.i, a.o, a.t, a.w + (D.getD a.t.toNat 0 - D.getD a.f.toNat 0)⟩ := by
  unfold pushL
  rw [List.mem_filterMap]
  constructor
  · rintro ⟨a, ha, h⟩
    unfold pushA at h
    split at h
    · cases h
    · rename_i hh
      cases h
      exact ⟨a, ha, fun c => hh (.inl c), fun c => hh (.inr c), rfl⟩
  · rintro ⟨a, ha, h1, h2, rfl⟩
    refine ⟨a, ha, ?_⟩
    unfold pushA
    rw [if_neg (fun c => by rcases c with c | c; exact h1 c; exact h2 c)]
theorem aheadB_w (a b : Arc) (x y : Int) : aheadB ⟨a.f, a.i, a.o, a.t, x⟩ ⟨b.f, b.i, b.o, b.t, y⟩ = aheadB a b := rfl
theorem push_srt {D : List Int} {l : List Arc} (h : Srt l) : Srt (pushL D l) := by
  unfold Srt pushL at *
  refine List.Pairwise.filterMap _ ?_ h
  intro a a' haa' b hb b' hb'
  unfold pushA at hb hb'
  split at hb
  · cases hb
  · split at hb'
    · cases hb'
    · cases hb; cases hb'; exact haa'
theorem PushIs.fok {F : TF} {D : List Int} {X : TF} (h : PushIs F D X) (hF : fstE F = 0) (hP : Pot F D) (hb : pushBig (pushL D F.arcs) = false) : fstE X = 0 := by
  obtain ⟨hF, hs⟩ := fstE_iff.1 hF
  refine fstE_iff.2 ⟨⟨?_, ?_, ?_, ?_, ?_, ?_⟩, ?_⟩
  · rw [h.st]; exact hF.st
  · rw [h.st, h.start]; exact hF.start
  · rw [h.fin, pushF_len, h.st]; exact hF.finl
  · intro n hn
    rw [h.fin] at hn
    obtain ⟨i, hi, rfl⟩ := List.getElem_of_mem hn
    rw [pushF_len] at hi
    have e : (pushF D F.fin F.fin.length)[i]'(by rw [pushF_len]; exact hi) = (pushF D F.fin F.fin.length).getD i 0 := by simp [List.getD, pushF_len, hi]
    rw [e, pushF_getD _ _ _ _ hi]
    unfold pushV
    have h1 := hF.fin _ (getD_mem F.fin i 0 hi)
    split
    · rename_i hh
      have h2 := hP.fin i hi hh.2
      have h3 := hP.low i hi
      omega
    · exact h1
  · rw [h.arcs]; have := pushL_len D F.arcs; have := hF.arcl; omega
  · intro b hb'
    rw [h.arcs] at hb'
    have hw : b.w ≤ 1000000000 := by
      unfold pushBig at hb
      rw [List.any_eq_false] at hb
      have := hb b hb'
      simp only [decide_eq_true_eq] at this
      omega
    obtain ⟨a, ha, h1, h2, rfl⟩ := pushL_mem.1 hb'
    have hx := hF.arc a ha
    have hn := hF.finl
    have h3 := hP.low a.f.toNat (by have := hx.f0; have := hx.f1; omega)
    have h4 := hP.low a.t.toNat (by have := hx.t0; have := hx.t1; omega)
    have h5 := hP.arc a ha h2 (by have := hx.w0; omega)
    rw [h.st]
    exact ⟨hx.f0, hx.f1, hx.t0, hx.t1, hx.i0, hx.o0, by show 0 ≤ a.w + _; omega, hw⟩
  · rw [h.arcs]; exact push_srt hs
theorem push_way {F : TF} (hF : FOk F) {D : List Int} (hP : Pot F D) {s t : Int} {u v : List Int} {d : Int} (h : Way F.arcs s u v t d) (ht : D.getD t.toNat 0 ≠ -1) : D.getD s.toNat 0 ≠ -1 ∧ Way (pushL D F.arcs) s u v t (d + D.getD t.toNat 0 - D.getD s.toNat 0) := by
  induction h with
  | nil s => exact ⟨ht, by have : (0 + D.getD s.toNat 0 - D.getD s.toNat 0) = 0 := by omega
                           rw [this]; exact .nil s⟩
  | cons ha h ih =>
    rename_i a u v t c
    obtain ⟨h1, h2⟩ := ih ht
    have hx := hF.arc a ha
    have hn := hF.finl
    have h4 := hP.low a.t.toNat (by have := hx.t0; have := hx.t1; omega)
    have h5 := hP.arc a ha h1 (by have := hx.w0; omega)
    refine ⟨h5.1, ?_⟩
    have h6 : (⟨a.f, a.i, a.o, a.t, a.w + (D.getD a.t.toNat 0 - D.getD a.f.toNat 0)⟩ : Arc) ∈ pushL D F.arcs := pushL_mem.2 ⟨a, ha, h5.1, h1, rfl⟩
    have h7 := Way.cons h6 h2
    have e : (a.w + c + D.getD t.toNat 0 - D.getD a.f.toNat 0) = (a.w + (D.getD a.t.toNat 0 - D.getD a.f.toNat 0)) + (c + D.getD t.toNat 0 - D.getD a.t.toNat 0) := by omega
    rw [e]
    exact h7
theorem push_way' {F : TF} {D : List Int} {s t : Int} {u v : List Int} {d : Int} (h : Way (pushL D F.arcs) s u v t d) (ht : D.getD t.toNat 0 ≠ -1) : D.getD s.toNat 0 ≠ -1 ∧ Way F.arcs s u v t (d - D.getD t.toNat 0 + D.getD s.toNat 0) := by
  induction h with
  | nil s => exact ⟨ht, by have : (0 - D.getD s.toNat 0 + D.getD s.toNat 0) = 0 := by omega
                           rw [this]; exact .nil s⟩
  | cons ha h ih =>
    rename_i b u v t c
    obtain ⟨h1, h2⟩ := ih ht
    obtain ⟨a, ha', h3, h4, rfl⟩ := pushL_mem.1 ha
    refine ⟨h3, ?_⟩
    simp only at h2 h1 ⊢
    have h7 := Way.cons ha' h2
    have e : (a.w + (D.getD a.t.toNat 0 - D.getD a.f.toNat 0)) + c - D.getD t.toNat 0 + D.getD a.f.toNat 0 = a.w + (c - D.getD t.toNat 0 + D.getD a.t.toNat 0) := by omega
    rw [e]
    exact h7
theorem PushIs.wt {F : TF} {D : List Int} {X : TF} (h : PushIs F D X) (hF : FOk F) (hP : Pot F D) {u v : List Int} {c : Int} : Wt X u v c ↔ Wt F u v (c + D.getD F.start.toNat 0) ∧ D.getD F.start.toNat 0 ≠ -1 := by
  have hs := hF.start
  have hn := hF.finl
  unfold Wt
  rw [h.start, h.arcs, h.fin]
  constructor
  · rintro ⟨t, d, h1, h2, rfl⟩
    have hr : 0 ≤ t ∧ t < F.st := by
      have : ∀ {s t : Int} {u v : List Int} {c : Int}, Way (pushL D F.arcs) s u v t c → 0 ≤ s ∧ s < F.st → 0 ≤ t ∧ t < F.st := by
        intro s t u v c hw
        induction hw with
        | nil s => exact id
        | cons ha h ih =>
          obtain ⟨a, ha', _, _, rfl⟩ := pushL_mem.1 ha
          exact fun _ => ih ⟨(hF.arc a ha').t0, (hF.arc a ha').t1⟩
      exact this h1 hs
    have ht : t.toNat < F.fin.length := by omega
    rw [pushF_getD _ _ _ _ ht] at h2 ⊢
    unfold pushV at h2 ⊢
    by_cases e : F.fin.getD t.toNat 0 = -1
    · rw [if_neg (fun hh => hh.2 e)] at h2; exact absurd e h2
    · rw [if_pos ⟨ht, e⟩]
      have h3 := hP.fin _ ht e
      obtain ⟨h4, h5⟩ := push_way' h1 h3.1
      exact ⟨⟨t, _, h5, e, by omega⟩, h4⟩
  · rintro ⟨⟨t, d, h1, h2, h3⟩, _⟩
    have hr := h1.rng hF.arc hs
    have ht : t.toNat < F.fin.length := by omega
    have h4 := hP.fin _ ht h2
    have h5 := hP.low _ ht
    obtain ⟨h6, h7⟩ := push_way hF hP h1 h4.1
    refine ⟨t, _, h7, ?_, ?_⟩
    · rw [pushF_getD _ _ _ _ ht]
      unfold pushV
      rw [if_pos ⟨ht, h2⟩]
      omega
    · rw [pushF_getD _ _ _ _ ht]
      unfold pushV
      rw [if_pos ⟨ht, h2⟩]
      omega
inductive GW (arcs : List Arc) (rk : Nat → Nat) (x : Int) : Int → List Int → Int → Prop
  | nil : GW arcs rk x x [] 0
  | cons {n : Nat} {a : Arc} {l : List Int} {c : Int} (hn : arcs[n]? = some a) (hr : rk a.f.toNat < rk a.t.toNat) (h : GW arcs rk x a.t l c) : GW arcs rk x a.f ((n : Int) :: l) (a.w + c)
theorem GW.snoc {arcs : List Arc} {rk : Nat → Nat} {x s : Int} {l : List Int} {c : Int} (h : GW arcs rk x s l c) : ∀ {n : Nat} {a : Arc}, arcs[n]? = some a → a.f = x → rk a.f.toNat < rk a.t.toNat → GW arcs rk a.t s (l ++ [(n : Int)]) (c + a.w) := by
  induction h with
  | nil =>
    intro n a h1 h2 h3
    subst h2
    have := GW.cons h1 h3 (.nil (arcs := arcs) (rk := rk) (x := a.t))
    simpa using this
  | cons h1 h2 h ih =>
    intro n a g1 g2 g3
    rw [Int.add_assoc]
    exact .cons h1 h2 (ih g1 g2 g3)
end Go.Fw

/-
  One way for each word: all that the law asks.
-/
namespace Go.Fw
theorem IsUs.arcs {F U : TF} (h : IsUs F U) {a : Arc} (ha : a ∈ U.arcs) : ∃ b ∈ F.arcs, a.i = b.i ∧ a.o = b.o ∧ a.w = b.w := by
  obtain ⟨p, hp, h1, h2, h3, h4⟩ := h
  rw [h4] at ha
  unfold kT at ha
  split at ha
  · obtain ⟨b, hb, _, _, rfl⟩ := mem_karcs.1 ha
    exact ⟨b, hb, rfl, rfl, rfl⟩
  · cases ha
theorem IsUs.fin {F U : TF} (h : IsUs F U) (j : Nat) : U.fin.getD j 0 ≤ fmaxL F.fin F.fin.length := by
  obtain ⟨p, hp, h1, h2, h3, h4⟩ := h
  have h0 : 0 ≤ fmaxL F.fin F.fin.length := by
    have : ∀ k, 0 ≤ fmaxL F.fin k := by
      intro k
      induction k with
      | zero => exact Int.le_refl _
      | succ k ih => unfold fmaxL; split <;> omega
    exact this _
  by_cases hj : j < U.fin.length
  · have hm := getD_mem U.fin j 0 hj
    generalize U.fin.getD j 0 = n at *
    rw [h3] at hm
    unfold kT at hm
    split at hm
    · obtain ⟨i, hi, rfl⟩ := kfin_mem F.fin hm
      by_cases hi2 : i < F.fin.length
      · exact fmaxL_ge _ i hi2
      · simp only [List.getD, List.getElem?_eq_none (show F.fin.length ≤ i by omega), Option.getD_none]; exact h0
    · rw [List.mem_singleton] at hm
      omega
  · simp only [List.getD, List.getElem?_eq_none (show U.fin.length ≤ j by omega), Option.getD_none]; exact h0
theorem RdW.empty {L : List Arc} {s t c : Int} {w : List Int} (h : RdW L s w t c) (hL : L = []) : w = [] ∧ t = s ∧ c = 0 := by
  cases h with
  | nil => exact ⟨rfl, rfl, rfl⟩
  | cons ha _ => rw [hL] at ha; cases ha
theorem IsUs.rd {F U : TF} (h : IsUs F U) (hF : FRng F) (hs : 0 ≤ F.start ∧ F.start < F.st) (hL : ∀ a ∈ F.arcs, a.i = a.o ∧ a.i ≠ 0) {w : List Int} {t c : Int} (hr : RdW U.arcs U.start w t c) : ∃ t', (0 ≤ t' ∧ t' < F.st) ∧ RdW F.arcs F.start w t' c := by
  have hLU : ∀ a ∈ U.arcs, a.i = a.o ∧ a.i ≠ 0 := fun a ha => by
    obtain ⟨b, hb, e1, e2, _⟩ := h.arcs ha
    rw [e1, e2]; exact hL b hb
  obtain ⟨p, hp, h1, h2, h3, h4⟩ := h
  rw [h4] at hLU
  rw [h4, h2] at hr
  by_cases hps : p F.start.toNat = true
  · have e1 : (kT F p).arcs = karc p F.arcs F.arcs.length := by unfold kT; rw [if_pos hps]
    have e2 : (kT F p).start = (rkB p F.start.toNat : Nat) := by unfold kT; rw [if_pos hps]
    rw [e1] at hLU
    rw [e1, e2] at hr
    obtain ⟨j, q1, q2, q3, q4, q5⟩ := kept_way hF (rd_way hLU hr) F.start hs hps rfl
    exact ⟨j, ⟨q1, q2⟩, (way_rd hL q5).2⟩
  · have e1 : (kT F p).arcs = [] := by unfold kT; rw [if_neg hps]
    rw [e1] at hr
    obtain ⟨rfl, _, rfl⟩ := hr.empty rfl
    exact ⟨F.start, hs, .nil _⟩
theorem fineB_iff {F : TF} : fineB F = true ↔ (∀ a ∈ F.arcs, a.i = a.o ∧ a.i ≠ 0) ∧ roundB F.arcs F.st.toNat = false := by
  unfold fineB bothB silB
  rw [Bool.and_eq_true, Bool.and_eq_true, Bool.not_eq_true', Bool.not_eq_true', Bool.not_eq_true', List.any_eq_false, List.any_eq_false]
  constructor
  · rintro ⟨⟨h1, h2⟩, h3⟩
    exact ⟨fun a ha => ⟨by simpa using h1 a ha, by simpa using h2 a ha⟩, h3⟩
  · rintro ⟨h1, h2⟩
    exact ⟨⟨fun a ha => by simpa using (h1 a ha).1, fun a ha => by simpa using (h1 a ha).2⟩, h2⟩
structure DetH (F U : TF) (st : DS) : Prop where
  fok : FOk F
  fine : fineB F = true
  us : IsUs F U
  bgn : bgnF U 201 200 [⟨U.start, 0⟩] ≤ 200
  done : MDone U st
section
variable {F U : TF} {st : DS} (h : DetH F U st)
include h
theorem DetH.wok : WOk F := ⟨FRng.of h.fok, fun a ha => ⟨(h.fok.arc a ha).w0, (h.fok.arc a ha).w1⟩, h.fok.fin⟩
theorem DetH.lets : ∀ a ∈ F.arcs, a.i = a.o ∧ a.i ≠ 0 := (fineB_iff.1 h.fine).1
theorem DetH.uok : WOk U ∧ (0 ≤ U.start ∧ U.start < U.st) ∧ U.st ≤ F.st := h.us.ok h.wok h.fok.start
theorem DetH.hU : ∀ a ∈ U.arcs, (0 ≤ a.f ∧ a.f < U.st) ∧ (0 ≤ a.t ∧ a.t < U.st) ∧ 0 ≤ a.w ∧ a.w ≤ 1000000000 := fun a ha => by
  have := h.uok.1.arc a ha
  have := h.uok.1.w a ha
  omega
theorem DetH.hlet : ∀ a ∈ U.arcs, (1 ≤ a.i ∧ a.i ≤ 9) ∧ a.i = a.o := fun a ha => by
  obtain ⟨b, hb, e1, e2, _⟩ := h.us.arcs ha
  have := h.lets b hb
  have := (h.fok.arc b hb).i0
  omega
theorem DetH.hfin : ∀ j : Nat, -1 ≤ U.fin.getD j 0 := fun j => by
  by_cases hj : j < U.fin.length
  · exact (h.uok.1.fin _ (getD_mem U.fin j 0 hj)).1
  · simp only [List.getD, List.getElem?_eq_none (show U.fin.length ≤ j by omega), Option.getD_none]; omega
theorem DetH.ri : RI U st.1.length 1 st := h.done.ri
theorem DetH.small : MInv U (treeL U 201 [⟨U.start, 0⟩]) st.1.length st ∧ st.1.length ≤ 200 ∧ st.2.length ≤ 1800 :=
  h.done.small h.uok.1.st.1 h.uok.1.w (fun a ha => (h.hU a ha).2.1) h.uok.2.1 h.bgn
theorem DetH.fst (hg : greatB st.2 (st.1.map (finD U)) = false) (cf ca : Nat) : fstE (mkD U st cf ca) = 0 := by
  have hr := h.ri
  obtain ⟨h1, h2, h3⟩ := h.small
  have hl := hr.len
  unfold greatB at hg
  rw [Bool.or_eq_false_iff, List.any_eq_false, List.any_eq_false] at hg
  refine fstE_iff.2 ⟨⟨?_, ?_, ?_, ?_, ?_, ?_⟩, hr.srt⟩
  · show 1 ≤ ((st.1.length : Nat) : Int) ∧ ((st.1.length : Nat) : Int) ≤ 200
    omega
  · show 0 ≤ (0 : Int) ∧ (0 : Int) < ((st.1.length : Nat) : Int)
    omega
  · show ((st.1.map (finD U)).length : Int) = ((st.1.length : Nat) : Int)
    rw [List.length_map]
  · intro n hn
    have g1 := hg.2 n hn
    have hn : n ∈ st.1.map (finD U) := hn
    obtain ⟨s, hs, rfl⟩ := List.mem_map.1 hn
    obtain ⟨j, hj, rfl⟩ := List.mem_iff_getElem.1 hs
    have hok := h1.ok j hj
    have e : st.1.getD j [] = st.1[j] := by simp [List.getD, hj]
    rw [e] at hok
    have := (finD_min (U := U) (fun e he => ((hok.rng e he).2).1) h.hfin).low
    exact ⟨this, by simpa using g1⟩
  · show st.2.length ≤ 3000
    omega
  · intro a ha
    have ha : a ∈ st.2 := ha
    have g1 := hg.1 a ha
    obtain ⟨j, x, q1, q2, q3, q4, q5, q6, q7, q8, q9, q10⟩ := hr.arc ha
    have hok := h1.ok j q2
    have hb := (sbR_spec (U := U) (fun e he => ((hok.rng e he).2).1) (fun a ha => (h.hU a ha).2.2.1) x).b.low
    change -1 ≤ sbB U _ x at hb
    have g2 : a.w ≤ 1000000000 := by simpa using g1
    exact ⟨by omega, by show a.f < ((st.1.length : Nat) : Int); omega, by omega, by show a.t < ((st.1.length : Nat) : Int); omega, by omega, by omega, by omega, g2⟩
theorem DetH.both (cf ca : Nat) : bothB (mkD U st cf ca) = true ∧ silB (mkD U st cf ca) = false := by
  unfold bothB silB
  rw [Bool.not_eq_true', List.any_eq_false, List.any_eq_false]
  have key : ∀ a ∈ (mkD U st cf ca).arcs, a.i = a.o ∧ a.i ≠ 0 := fun a ha => by
    obtain ⟨j, x, q1, q2, q3, q4, q5, q6, q7, q8, q9, q10⟩ := h.ri.arc ha
    omega
  exact ⟨fun a ha => by simpa using (key a ha).1, fun a ha => by simpa using (key a ha).2⟩
theorem DetH.round (cf ca : Nat) : roundB (mkD U st cf ca).arcs (mkD U st cf ca).st.toNat = false := by
  show roundB st.2 ((st.1.length : Nat) : Int).toNat = false
  rw [Int.toNat_natCast]
  have hr := h.ri
  obtain ⟨h1, h2, h3⟩ := h.small
  cases hc : roundB st.2 st.1.length with
  | false => rfl
  | true =>
    exfalso
    have hf : ∀ a ∈ st.2, 0 ≤ a.f ∧ a.f < (st.1.length : Nat) := fun a ha => by
      obtain ⟨j, x, q1, q2, q3, q4, q5, q6, q7, q8, q9, q10⟩ := hr.arc ha
      omega
    obtain ⟨v, hv, hn⟩ := round_all hf hc F.st.toNat
    obtain ⟨s, w, c, hs, hw, hrd⟩ := nowB_rd hf (v := (v : Int)) ⟨by omega, by omega⟩ hn
    obtain ⟨w0, d, hr0⟩ := hr.rch s.toNat (by omega)
    rw [show ((s.toNat : Nat) : Int) = s by omega] at hr0
    have hall := hr0.app hrd
    have hsub := hr.sub h.hU hall
    rw [Int.toNat_natCast] at hsub
    have hne := h1.ne _ (getD_mem st.1 v [] hv)
    obtain ⟨e, he⟩ := List.exists_mem_of_ne_nil _ hne
    have hp := (hsub.min e he).is (by have := hsub.r0; have := hsub.b0 e he; omega)
    obtain ⟨t', ht, hF⟩ := h.us.rd h.wok.toFRng h.fok.start h.lets hp
    have hnb := nowB_le (k := (w0 ++ w).length) (j := F.st.toNat) (by rw [List.length_append, hw]; omega) (rd_nowB hF)
    have hrf := (fineB_iff.1 h.fine).2
    unfold roundB at hrf
    rw [List.any_eq_false] at hrf
    have := hrf t'.toNat (List.mem_range.2 (by omega))
    rw [show ((t'.toNat : Nat) : Int) = t' by omega] at this
    exact this hnb
theorem DetH.cost {cf ca : Nat} {l : List Int} {n : Int} (hn : MinOf (Wt (mkD U st cf ca) l l) n) : MinOf (Wt F l l) n := by
  have h1 := mkD_wt h.hU h.hlet h.hfin h.ri hn
  obtain ⟨p, hp, g1, g2, g3, g4⟩ := h.us
  refine h1.cong fun c => ?_
  rw [← useful_wt h.wok.toFRng h.fok.start hp]
  unfold Wt
  rw [g2, g3, g4]
end
end Go.Fw

/-
  What is useful is one thing alone; so the beginnings are as many, whoever counts.
-/
namespace Go.Fw
theorem rkB_cong {p q : Nat → Bool} : ∀ k, (∀ j, j < k → p j = q j) → rkB p k = rkB q k
  | 0, _ => rfl
  | k + 1, h => by
    have := rkB_cong k fun j hj => h j (by omega)
    unfold rkB
    rw [h k (by omega), this]
theorem kfin_cong {p q : Nat → Bool} (fin : List Int) : ∀ k, (∀ j, j < k → p j = q j) → kfin p fin k = kfin q fin k
  | 0, _ => rfl
  | k + 1, h => by
    have := kfin_cong fin k fun j hj => h j (by omega)
    unfold kfin
    rw [h k (by omega), this]
theorem karc_cong {p q : Nat → Bool} {n : Nat} (hpq : ∀ j, j < n → p j = q j) {l : List Arc} (hl : ∀ a ∈ l, a.f.toNat < n ∧ a.t.toNat < n) : ∀ k, k ≤ l.length → karc p l k = karc q l k
  | 0, _ => rfl
  | k + 1, hk => by
    have ih := karc_cong hpq hl k (by omega)
    have ha := hl _ (getD_mem l k aD (by omega))
    unfold karc kOk kArc
    rw [ih, hpq _ ha.1, hpq _ ha.2, rkB_cong _ fun j hj => hpq j (by omega), rkB_cong (q := q) _ fun j hj => hpq j (by omega)]
theorem kT_cong {F : TF} (hF : FRng F) (hs : 0 ≤ F.start ∧ F.start < F.st) {p q : Nat → Bool} (hp : UsOk F p) (hq : UsOk F q) : kT F p = kT F q := by
  have hpq : ∀ j, j < F.st.toNat → p j = q j := fun j hj => by
    rw [Bool.eq_iff_iff, hp.iff j hj, hq.iff j hj]
  have h1 := rkB_cong F.st.toNat hpq
  have h2 := kfin_cong F.fin F.st.toNat hpq
  have h3 := karc_cong hpq (l := F.arcs) (fun a ha => by have := hF.arc a ha; omega) F.arcs.length (Nat.le_refl _)
  have h4 := rkB_cong (p := p) (q := q) F.start.toNat fun j hj => hpq j (by omega)
  unfold kT
  rw [hpq _ (by omega), h1, h2, h3, h4]
theorem IsUs.uniq {F U V : TF} (hF : FRng F) (hs : 0 ≤ F.start ∧ F.start < F.st) (hU : IsUs F U) (hV : IsUs F V) : U.st = V.st ∧ U.start = V.start ∧ U.fin = V.fin ∧ U.arcs = V.arcs := by
  obtain ⟨p, hp, a1, a2, a3, a4⟩ := hU
  obtain ⟨q, hq, b1, b2, b3, b4⟩ := hV
  rw [kT_cong hF hs hp hq] at a1 a2 a3 a4
  exact ⟨a1.trans b1.symm, a2.trans b2.symm, a3.trans b3.symm, a4.trans b4.symm⟩
theorem sbX_cap {U V : TF} (h2 : U.arcs = V.arcs) (c : Int) : sbX U c = sbX V c := by
  funext st x
  unfold sbX
  rw [h2]
theorem sbR_cap {U V : TF} (h2 : U.arcs = V.arcs) (s : List Duo) (c : Int) : sbR U s c = sbR V s c := by
  unfold sbR
  rw [sbX_cap h2]
theorem bgn_cap {U V : TF} (h1 : U.st = V.st) (h2 : U.arcs = V.arcs) : ∀ (f m : Nat) (s : List Duo), bgnF U f m s = bgnF V f m s
  | 0, _, _ => rfl
  | f + 1, m, s => by
    unfold bgnF sbB sbS
    simp only [sbR_cap h2, h1, bgn_cap h1 h2 f]
theorem IsUs.bgn {F U V : TF} (hF : FRng F) (hs : 0 ≤ F.start ∧ F.start < F.st) (hU : IsUs F U) (hV : IsUs F V) : bgnF U 201 200 [⟨U.start, 0⟩] = bgnF V 201 200 [⟨V.start, 0⟩] := by
  obtain ⟨h1, h2, h3, h4⟩ := hU.uniq hF hs hV
  rw [h2]
  exact bgn_cap h1 h4 _ _ _
section
variable {F U V : TF} (hF : FOk F) (hf : fineB F = true) (hU : IsUs F U) (hV : IsUs F V) {W vs : List (List Int)} {par sym : List Int} {i : Nat} {c : Int}
include hF hf hV
theorem us_ok : (∀ a ∈ V.arcs, (0 ≤ a.f ∧ a.f < V.st) ∧ (0 ≤ a.t ∧ a.t < V.st) ∧ 0 ≤ a.w ∧ a.w ≤ 1000000000) ∧ ∀ a ∈ V.arcs, 1 ≤ a.i ∧ a.i ≤ 9 := by
  have hw : WOk F := ⟨FRng.of hF, fun a ha => ⟨(hF.arc a ha).w0, (hF.arc a ha).w1⟩, hF.fin⟩
  have hv := hV.ok hw hF.start
  refine ⟨fun a ha => ?_, fun a ha => ?_⟩
  · have := hv.1.arc a ha
    have := hv.1.w a ha
    omega
  · obtain ⟨b, hb, e1, e2, _⟩ := hV.arcs ha
    have := (fineB_iff.1 hf).1 b hb
    have := (hF.arc b hb).i0
    omega
include hU
end
end Go.Fw

/-
  What is made comes to an end, and is one thing alone.
-/
namespace Go.Fw
theorem IsUs.some (F : TF) : ∃ U, IsUs F U := by
  classical
  refine ⟨kT F fun j => decide (Rch F.arcs false [F.start] j ∧ ∃ e : Nat, e < F.st.toNat ∧ F.fin.getD e 0 ≠ -1 ∧ Rch F.arcs true [(e : Int)] j), _, ⟨fun j _ => ?_⟩, rfl, rfl, rfl, rfl⟩
  rw [decide_eq_true_eq]
theorem stD_cap {U V : TF} (h1 : U.st = V.st) (h2 : U.arcs = V.arcs) (i : Nat) (st : DS) (c : Int) : stD U i st c = stD V i st c := by
  unfold stD sbB sbS
  simp only [sbR_cap h2, h1]
theorem rowP_cap {U V : TF} (h1 : U.st = V.st) (h2 : U.arcs = V.arcs) (i : Nat) (st : DS) : ∀ k, rowP U i st k = rowP V i st k
  | 0 => rfl
  | k + 1 => by rw [rowP_succ, rowP_succ, rowP_cap h1 h2 i st k, stD_cap h1 h2]
theorem rowsD_cap {U V : TF} (h1 : U.st = V.st) (h2 : U.arcs = V.arcs) (h3 : U.start = V.start) : ∀ k, rowsD U k = rowsD V k
  | 0 => by unfold rowsD; rw [h3]
  | k + 1 => by
    show rowP U k (rowsD U k) 9 = rowP V k (rowsD V k) 9
    rw [rowsD_cap h1 h2 h3 k, rowP_cap h1 h2]
theorem MDone.cap {U V : TF} (h1 : U.st = V.st) (h2 : U.arcs = V.arcs) (h3 : U.start = V.start) {st : DS} (h : MDone U st) : MDone V st := by
  obtain ⟨k, e, hk⟩ := h
  exact ⟨k, by rw [← rowsD_cap h1 h2 h3]; exact e, hk⟩
theorem MDone.some {U : TF} (hU : 0 ≤ U.st) (hw : ∀ a ∈ U.arcs, 0 ≤ a.w ∧ a.w ≤ 1000000000) (hr : ∀ a ∈ U.arcs, 0 ≤ a.t ∧ a.t < U.st) (hs : 0 ≤ U.start ∧ U.start < U.st) (hb : bgnF U 201 200 [⟨U.start, 0⟩] ≤ 200) : ∃ st, MDone U st := by
  obtain ⟨g1, g2⟩ := tree_ok U 201 200 [⟨U.start, 0⟩] (by omega) hb
  have : ∀ k, (∃ st, MDone U st) ∨ MInv U (treeL U 201 [⟨U.start, 0⟩]) k (rowsD U k) ∧ k < (rowsD U k).1.length := by
    intro k
    induction k with
    | zero => exact .inr ⟨MInv.start hs (tree_self _ _ _), by simp [rowsD]⟩
    | succ k ih =>
      rcases ih with ih | ⟨h1, h2⟩
      · exact .inl ih
      · obtain ⟨p1, p2, p3⟩ := h1.row hU hw hr g2 h2 9 (Nat.le_refl _)
        have e : rowsD U (k + 1) = rowP U k (rowsD U k) 9 := rfl
        by_cases hk : k + 1 = (rowsD U (k + 1)).1.length
        · exact .inl ⟨_, k + 1, rfl, hk⟩
        · right
          rw [e] at hk ⊢
          exact ⟨⟨p1.sub, p1.nd, p1.ok, p1.ne, ⟨by omega, p1.len.2⟩, p1.raw⟩, by omega⟩
  rcases this 200 with h | ⟨h1, h2⟩
  · exact h
  · have := nd_le h1.nd h1.sub
    omega
end Go.Fw

/-
  What is made, before it is made least: bounds.
-/
namespace Go.Fw
section
variable {F U : TF} {st : DS} (h : DetH F U st) (h12 : F.st ≤ 12)
include h h12
theorem DetH.short {w : List Int} {t c : Int} (hr : RdW U.arcs U.start w t c) : w.length < 12 ∧ c ≤ 12000000000 := by
  obtain ⟨t', ht, hF⟩ := h.us.rd h.wok.toFRng h.fok.start h.lets hr
  have h1 := LvA.all (l := F.arcs) (n := F.st.toNat) (fun a ha => by
    have := h.fok.arc a ha
    have := this.t0
    have := (h.fok.arc a ha).t1
    omega) (fineB_iff.1 h.fine).2 (j := F.start) (by have := h.fok.start; omega) _ _ _ hF
  have h2 := hr.pos (fun a ha => (h.hU a ha).2.2)
  have h3 := h.fok.st
  omega
theorem DetH.wbd : ∀ a ∈ st.2, 0 ≤ a.w ∧ a.w ≤ 12000000000 := fun a ha => by
  have hr := h.ri
  obtain ⟨j, x, q1, q2, q3, q4, q5, q6, q7, q8, q9, q10⟩ := hr.arc ha
  obtain ⟨w, d, hrd⟩ := hr.rch j q2
  have hs := hr.sub h.hU hrd
  rw [Int.toNat_natCast] at hs
  have hlow := (sbR_spec (U := U) hs.b0 (fun a ha => (h.hU a ha).2.2.1) x).b.low
  change -1 ≤ sbB U _ x at hlow
  obtain ⟨t, c, hb⟩ := hs.yes h.hU q3
  have hs2 := hs.step h.hU q3
  obtain ⟨e, he, _⟩ := hs2.all _ _ hb
  have hp := (hs2.min e he).is (by have := hs2.r0; have := hs2.b0 e he; omega)
  have := (h.short h12 hp).2
  have := hs2.b0 e he
  have := hs.r0
  omega
theorem DetH.fbd : ∀ n ∈ st.1.map (finD U), -1 ≤ n ∧ n ≤ 13000000000 := fun n hn => by
  have hr := h.ri
  obtain ⟨s, hs, rfl⟩ := List.mem_map.1 hn
  obtain ⟨j, hj, rfl⟩ := List.mem_iff_getElem.1 hs
  have e : st.1.getD j [] = st.1[j] := by simp [List.getD, hj]
  rw [← e]
  obtain ⟨w, d, hrd⟩ := hr.rch j hj
  have hs := hr.sub h.hU hrd
  rw [Int.toNat_natCast] at hs
  have hm := finD_min (U := U) hs.b0 h.hfin
  refine ⟨hm.low, ?_⟩
  by_cases hn : finD U (st.1.getD j []) = -1
  · omega
  · obtain ⟨e, he, g1, g2⟩ := hm.is hn
    have hp := (hs.min e he).is (by have := hs.r0; have := hs.b0 e he; omega)
    have := (h.short h12 hp).2
    have := hs.r0
    have hfu : U.fin.getD e.a.toNat 0 ≤ 1000000000 := by
      by_cases hj : e.a.toNat < U.fin.length
      · exact (h.uok.1.fin _ (getD_mem U.fin _ 0 hj)).2
      · simp only [List.getD, List.getElem?_eq_none (show U.fin.length ≤ e.a.toNat by omega), Option.getD_none]; omega
    omega
theorem DetH.fokB (cf ca : Nat) : FOkB (mkD U st cf ca) ∧ Srt st.2 := by
  have hr := h.ri
  obtain ⟨h1, h2, h3⟩ := h.small
  have hl := hr.len
  refine ⟨⟨?_, ?_, ?_, ?_, ?_, ?_⟩, hr.srt⟩
  · show 1 ≤ ((st.1.length : Nat) : Int) ∧ ((st.1.length : Nat) : Int) ≤ 200
    omega
  · show 0 ≤ (0 : Int) ∧ (0 : Int) < ((st.1.length : Nat) : Int)
    omega
  · show ((st.1.map (finD U)).length : Int) = ((st.1.length : Nat) : Int)
    rw [List.length_map]
  · intro n hn
    have := h.fbd h12 n hn
    omega
  · show st.2.length ≤ 3000
    omega
  · intro a ha
    have ha : a ∈ st.2 := ha
    obtain ⟨j, x, q1, q2, q3, q4, q5, q6, q7, q8, q9, q10⟩ := hr.arc ha
    have := h.wbd h12 a ha
    exact ⟨by omega, by show a.f < ((st.1.length : Nat) : Int); omega, by omega, by show a.t < ((st.1.length : Nat) : Int); omega, by omega, by omega, by omega, by omega⟩
end
end Go.Fw

/-
  Distances to the ends, told by words; what costs are pushed ahead.
-/
namespace Go.Fw
section
variable {F : TF} (hF : FOkB F)
include hF
theorem onS_sol : Sol (F.arcs.map swap) F.fin (onS F).1 := by
  have hb := fin_bdB hF
  have e : F.st.toNat = F.fin.length := by have := hb.len; omega
  unfold onS
  rw [e]
  exact (settled_solB (fun a ha => by
    obtain ⟨b, hb, rfl⟩ := List.mem_map.1 ha
    exact swap_okB (hF.arc b hb)) hb).1
theorem onS_low {q : Nat} (hq : q < F.st.toNat) : -1 ≤ (onS F).1.getD q 0 := by
  have := (onS_bdB hF).at (i := (q : Int)) (by omega) (by omega)
  rw [Int.toNat_natCast] at this
  exact this.1
theorem onS_le : ∀ (w : List Int) (q c : Int), 0 ≤ q ∧ q < F.st → CW F q w c → (onS F).1.getD q.toNat 0 ≠ -1 ∧ (onS F).1.getD q.toNat 0 ≤ c
  | [], q, c, hq, h => by
    obtain ⟨h1, rfl⟩ := CW.nil.1 h
    have hfl := hF.finl
    exact (onS_sol hF).s1 q.toNat (by omega) h1
  | x :: u, q, c, hq, h => by
    obtain ⟨a, ha, rfl, rfl, h1⟩ := CW.cons.1 h
    have hr := hF.arc a ha
    obtain ⟨g1, g2⟩ := onS_le u a.t _ ⟨hr.t0, hr.t1⟩ h1
    have hl := onS_low hF (q := a.t.toNat) (by have := hr.t0; have := hr.t1; omega)
    have hw := hr.w0
    have := (onS_sol hF).s2 (swap a) (List.mem_map_of_mem ha) g1 (show (onS F).1.getD a.t.toNat 0 + a.w ≠ -1 by omega)
    have g3 : (onS F).1.getD a.f.toNat 0 ≠ -1 ∧ (onS F).1.getD a.f.toNat 0 ≤ (onS F).1.getD a.t.toNat 0 + a.w := this
    exact ⟨g3.1, by omega⟩
theorem rn_cw {k v : Nat} {c : Int} (h : RN (F.arcs.map swap) F.fin k v c) : ∃ w, CW F v w c := by
  induction h with
  | base hv hc => exact ⟨[], CW.nil.2 ⟨by rw [Int.toNat_natCast]; exact hc, by rw [Int.toNat_natCast]⟩⟩
  | step h ha ih =>
    rename_i k a c
    obtain ⟨w, hw⟩ := ih
    obtain ⟨b, hb, rfl⟩ := List.mem_map.1 ha
    have hr := hF.arc b hb
    have e1 : (((swap b).f.toNat : Nat) : Int) = b.t := by show ((b.t.toNat : Nat) : Int) = b.t; have := hr.t0; omega
    have e2 : (((swap b).t.toNat : Nat) : Int) = b.f := by show ((b.f.toNat : Nat) : Int) = b.f; have := hr.f0; omega
    rw [e1] at hw
    rw [e2]
    exact ⟨b.i :: w, CW.cons.2 ⟨b, hb, rfl, rfl, by rw [show c + (swap b).w - b.w = c by show c + b.w - b.w = c; omega]; exact hw⟩⟩
theorem CW.pos : ∀ (w : List Int) (q c : Int), CW F q w c → 0 ≤ c
  | [], q, c, h => by
    obtain ⟨h1, rfl⟩ := CW.nil.1 h
    by_cases hj : q.toNat < F.fin.length
    · have := (hF.fin _ (getD_mem F.fin q.toNat 0 hj)).1
      omega
    · simp only [List.getD, List.getElem?_eq_none (show F.fin.length ≤ q.toNat by omega), Option.getD_none]; omega
  | x :: u, q, c, h => by
    obtain ⟨a, ha, rfl, rfl, h1⟩ := CW.cons.1 h
    have := (hF.arc a ha).w0
    have := CW.pos u _ _ h1
    omega
theorem onS_min {q : Nat} (hq : q < F.st.toNat) : MinOf (fun c => ∃ w, CW F q w c) ((onS F).1.getD q 0) := by
  have hl := onS_low hF hq
  have hle : ∀ c, (∃ w, CW F q w c) → (onS F).1.getD q 0 ≠ -1 ∧ (onS F).1.getD q 0 ≤ c := fun c ⟨w, hw⟩ => by
    have := onS_le hF w (q : Int) c ⟨by omega, by omega⟩ hw
    rwa [Int.toNat_natCast] at this
  by_cases e : (onS F).1.getD q 0 = -1
  · exact .inl ⟨e, fun c hc => (hle c hc).1 e⟩
  · have hb := fin_bdB hF
    have hbl := hb.len
    obtain ⟨k, _, hk⟩ := (onS_sol hF).s3 q (by omega) e
    exact .inr ⟨by omega, rn_cw hF hk, fun c hc => (hle c hc).2⟩
end
def phT (F : TF) (c1 c2 : Nat) : TF := ⟨F.st, F.start, pushF (onS F).1 F.fin F.fin.length, pushL (onS F).1 F.arcs, c1, c2⟩
section
variable {F : TF} (hF : FOkB F) {c1 c2 : Nat}
include hF
theorem ph_fin {q : Nat} (hq : q < F.st.toNat) : (phT F c1 c2).fin.getD q 0 = if F.fin.getD q 0 ≠ -1 then F.fin.getD q 0 - (onS F).1.getD q 0 else -1 := by
  have hfl := hF.finl
  have hq2 : q < F.fin.length := by omega
  show (pushF (onS F).1 F.fin F.fin.length).getD q 0 = _
  rw [pushF_getD _ _ _ _ hq2]
  unfold pushV
  by_cases e : F.fin.getD q 0 = -1
  · rw [if_neg (fun c => c.2 e), if_neg (fun c => c e), e]
  · rw [if_pos ⟨hq2, e⟩, if_pos e]
theorem ph_cw : ∀ (w : List Int) (q c : Int), 0 ≤ q ∧ q < F.st → (CW (phT F c1 c2) q w c ↔ CW F q w (c + (onS F).1.getD q.toNat 0))
  | [], q, c, hq => by
    have hfin := ph_fin hF (c1 := c1) (c2 := c2) (q := q.toNat) (by omega)
    rw [CW.nil, CW.nil, hfin]
    have hle := onS_le hF [] q (F.fin.getD q.toNat 0) hq
    by_cases e : F.fin.getD q.toNat 0 = -1
    · rw [if_neg (fun c => c e)]
      exact ⟨fun h => absurd rfl h.1, fun h => absurd e h.1⟩
    · have := hle (CW.nil.2 ⟨e, rfl⟩)
      rw [if_pos e]
      constructor
      · rintro ⟨_, h⟩; exact ⟨e, by omega⟩
      · rintro ⟨_, h⟩; exact ⟨by omega, by omega⟩
  | x :: u, q, c, hq => by
    rw [CW.cons, CW.cons]
    constructor
    · rintro ⟨b, hb, e1, e2, h⟩
      obtain ⟨a, ha, g1, g2, rfl⟩ := pushL_mem.1 hb
      have hr := hF.arc a ha
      simp only at e1 e2 h
      rw [ph_cw u a.t _ ⟨hr.t0, hr.t1⟩] at h
      refine ⟨a, ha, e1, e2, ?_⟩
      rw [← e1]
      rwa [show c - (a.w + ((onS F).1.getD a.t.toNat 0 - (onS F).1.getD a.f.toNat 0)) + (onS F).1.getD a.t.toNat 0 = c + (onS F).1.getD a.f.toNat 0 - a.w by omega] at h
    · rintro ⟨a, ha, e1, e2, h⟩
      have hr := hF.arc a ha
      have g1 := (onS_le hF u a.t _ ⟨hr.t0, hr.t1⟩ h).1
      have g2 := (onS_le hF (x :: u) q _ hq (CW.cons.2 ⟨a, ha, e1, e2, h⟩)).1
      rw [← e1] at g2 h
      refine ⟨_, pushL_mem.2 ⟨a, ha, g2, g1, rfl⟩, e1, e2, ?_⟩
      simp only
      rw [ph_cw u a.t _ ⟨hr.t0, hr.t1⟩]
      rwa [show c - (a.w + ((onS F).1.getD a.t.toNat 0 - (onS F).1.getD a.f.toNat 0)) + (onS F).1.getD a.t.toNat 0 = c + (onS F).1.getD a.f.toNat 0 - a.w by omega]
omit hF in
theorem ph_det (hd : DetD F) : DetD (phT F c1 c2) := by
  refine ⟨push_srt hd.srt, fun a ha b hb e1 e2 => ?_⟩
  obtain ⟨a', ha', _, _, rfl⟩ := pushL_mem.1 ha
  obtain ⟨b', hb', _, _, rfl⟩ := pushL_mem.1 hb
  have := hd.one a' ha' b' hb' e1 e2
  rw [this]
theorem ph_psh (hco : ∀ q : Nat, q < F.st.toNat → ∃ w c, CW F q w c) : Psh (phT F c1 c2) := by
  intro q hq
  have hq : q < F.st.toNat := hq
  have hm := onS_min hF hq
  have hr : 0 ≤ (q : Int) ∧ (q : Int) < F.st := by omega
  obtain ⟨w0, c0, h0⟩ := hco q hq
  obtain ⟨w, hw⟩ := hm.is (hm.le ⟨w0, h0⟩).1
  refine ⟨⟨w, (ph_cw hF w q 0 hr).2 (by rw [Int.zero_add, Int.toNat_natCast]; exact hw)⟩, fun v c hv => ?_⟩
  have := (ph_cw hF v q c hr).1 hv
  rw [Int.toNat_natCast] at this
  have := (hm.le ⟨v, this⟩).2
  omega
omit hF in
theorem nowB_push : ∀ (k : Nat) (v : Int), nowB (pushL (onS F).1 F.arcs) k v = true → nowB F.arcs k v = true
  | 0, _, _ => rfl
  | k + 1, v, h => by
    obtain ⟨b, hb, e1, e2⟩ := nowB_iff.1 h
    obtain ⟨a, ha, _, _, rfl⟩ := pushL_mem.1 hb
    exact nowB_iff.2 ⟨a, ha, e1, nowB_push k _ e2⟩
omit hF in
theorem ph_round (h : roundB F.arcs F.st.toNat = false) : roundB (phT F c1 c2).arcs (phT F c1 c2).st.toNat = false := by
  unfold roundB at h ⊢
  rw [List.any_eq_false] at h ⊢
  intro v hv
  exact fun hc => h v hv (nowB_push _ _ hc)
theorem ph_dfst (hd : ∀ q : Nat, q < F.st.toNat → (onS F).1.getD q 0 ≠ -1 ∧ (onS F).1.getD q 0 ≤ 1000000000000) : DFst (phT F c1 c2) := by
  have hfl := hF.finl
  have hst := hF.st
  have hal := hF.arcl
  have hlen : (pushL (onS F).1 F.arcs).length ≤ F.arcs.length := List.length_filterMap_le _ _
  have hmem : ∀ b ∈ pushL (onS F).1 F.arcs, ∃ a ∈ F.arcs, b.f = a.f ∧ b.t = a.t ∧ b.i = a.i ∧ 0 ≤ b.w ∧ b.w ≤ 10000000000000 := fun b hb => by
    obtain ⟨a, ha, g1, g2, rfl⟩ := pushL_mem.1 hb
    have hr := hF.arc a ha
    have hw := hr.w0
    have hw1 := hr.w1
    have h1 := hd a.t.toNat (by have := hr.t0; have := hr.t1; omega)
    have h2 := hd a.f.toNat (by have := hr.f0; have := hr.f1; omega)
    have l1 := onS_low hF (q := a.t.toNat) (by have := hr.t0; have := hr.t1; omega)
    have l2 := onS_low hF (q := a.f.toNat) (by have := hr.f0; have := hr.f1; omega)
    have := (onS_sol hF).s2 (swap a) (List.mem_map_of_mem ha) g2 (show (onS F).1.getD a.t.toNat 0 + a.w ≠ -1 by omega)
    have g3 : (onS F).1.getD a.f.toNat 0 ≠ -1 ∧ (onS F).1.getD a.f.toNat 0 ≤ (onS F).1.getD a.t.toNat 0 + a.w := this
    exact ⟨a, ha, rfl, rfl, rfl, by simp only; omega, by simp only; omega⟩
  refine ⟨⟨⟨by show 0 ≤ F.st; omega, by show F.st ≤ _; omega⟩, by show ((pushF _ _ _).length : Int) = F.st; rw [pushF_len]; exact hfl, by show (pushL _ _).length ≤ _; omega, fun b hb => ?_⟩, by show F.st ≤ 1000; omega, by show (pushL _ _).length ≤ 10000; omega, fun b hb => ?_, fun b hb => ?_, fun n hn => ?_⟩
  · obtain ⟨a, ha, e1, e2, _⟩ := hmem b hb
    have hr := hF.arc a ha
    rw [e1, e2]
    exact ⟨hr.f0, hr.f1, hr.t0, hr.t1⟩
  · obtain ⟨a, ha, e1, e2, e3, _⟩ := hmem b hb
    have hr := hF.arc a ha
    rw [e3]
    have := hr.i0
    omega
  · obtain ⟨a, ha, e1, e2, e3, e4⟩ := hmem b hb
    exact e4
  · obtain ⟨j, hj, rfl⟩ := List.mem_iff_getElem.1 hn
    have hj2 : j < F.fin.length := by
      have : (phT F c1 c2).fin.length = F.fin.length := pushF_len _ _ _
      omega
    have e : (phT F c1 c2).fin[j] = (phT F c1 c2).fin.getD j 0 := by simp [List.getD, hj]
    rw [e, ph_fin hF (by omega)]
    have hf := hF.fin _ (getD_mem F.fin j 0 hj2)
    by_cases e2 : F.fin.getD j 0 = -1
    · rw [if_neg (fun c => c e2)]; omega
    · rw [if_pos e2]
      have h1 := onS_le hF [] (j : Int) _ ⟨by omega, by omega⟩ (CW.nil.2 ⟨by rw [Int.toNat_natCast]; exact e2, rfl⟩)
      rw [Int.toNat_natCast] at h1
      have := onS_low hF (q := j) (by omega)
      omega
end
end Go.Fw

/-
  What is made of one that says something: each state leads to an end.
-/
namespace Go.Fw
theorem RdW.det {D : TF} (hd : DetD D) : ∀ {w : List Int} {s t t' c c' : Int}, RdW D.arcs s w t c → RdW D.arcs s w t' c' → t = t' ∧ c = c'
  | [], s, t, t', c, c', h, h' => by
    obtain ⟨rfl, rfl⟩ := h.none rfl
    obtain ⟨rfl, rfl⟩ := h'.none rfl
    exact ⟨rfl, rfl⟩
  | x :: u, s, t, t', c, c', h, h' => by
    obtain ⟨a, ha, e1, e2, d, h1, rfl⟩ := h.cons_inv
    obtain ⟨b, hb, f1, f2, d', h2, rfl⟩ := h'.cons_inv
    have e := hd.one a ha b hb (e1.trans f1.symm) (e2.trans f2.symm)
    subst e
    obtain ⟨rfl, rfl⟩ := RdW.det hd h1 h2
    exact ⟨rfl, rfl⟩
theorem rkB_sur {p : Nat → Bool} : ∀ {n r : Nat}, r < rkB p n → ∃ j, j < n ∧ p j = true ∧ rkB p j = r
  | 0, r, h => absurd h (Nat.not_lt_zero _)
  | n + 1, r, h => by
    have hs : rkB p (n + 1) = if p n = true then rkB p n + 1 else rkB p n := rfl
    rw [hs] at h
    by_cases hp : p n = true
    · rw [if_pos hp] at h
      by_cases e : r = rkB p n
      · exact ⟨n, by omega, hp, e.symm⟩
      · obtain ⟨j, h1, h2⟩ := rkB_sur (p := p) (n := n) (r := r) (by omega)
        exact ⟨j, by omega, h2⟩
    · rw [if_neg hp] at h
      obtain ⟨j, h1, h2⟩ := rkB_sur (p := p) (n := n) (r := r) h
      exact ⟨j, by omega, h2⟩
theorem rch_cw {D : TF} {e x : Int} (he : D.fin.getD e.toNat 0 ≠ -1) (h : Rch D.arcs true [e] x) : ∃ w c, CW D x w c := by
  induction h with
  | here hx =>
    rw [List.mem_singleton] at hx
    subst hx
    exact ⟨[], _, CW.nil.2 ⟨he, rfl⟩⟩
  | @on x a h ha hs ih =>
    obtain ⟨w, c, hw⟩ := ih
    have hs : a.t = x := hs
    show ∃ w c, CW D a.f w c
    exact ⟨a.i :: w, a.w + c, CW.cons.2 ⟨a, ha, rfl, rfl, by rw [show a.w + c - a.w = c by omega, hs]; exact hw⟩⟩
theorem cw_rch {D : TF} (hr : ∀ a ∈ D.arcs, 0 ≤ a.t ∧ a.t < D.st) : ∀ (w : List Int) (x c : Int), 0 ≤ x ∧ x < D.st → CW D x w c → ∃ e : Nat, e < D.st.toNat ∧ D.fin.getD e 0 ≠ -1 ∧ Rch D.arcs true [(e : Int)] x
  | [], x, c, hx, h => ⟨x.toNat, by omega, (CW.nil.1 h).1, .here (by rw [List.mem_singleton]; omega)⟩
  | y :: u, x, c, hx, h => by
    obtain ⟨a, ha, rfl, rfl, h1⟩ := CW.cons.1 h
    obtain ⟨e, g1, g2, g3⟩ := cw_rch hr u a.t _ (hr a ha) h1
    exact ⟨e, g1, g2, Rch.on (bk := true) g3 ha rfl⟩
theorem rd_rch {L : List Arc} {r s t c : Int} {w : List Int} (h : RdW L s w t c) : Rch L false [r] s → Rch L false [r] t := by
  induction h with
  | nil s => exact fun h => h
  | cons ha h ih => exact fun h' => ih (Rch.on (bk := false) h' ha rfl)
theorem cw_wt {D : TF} (hL : ∀ a ∈ D.arcs, a.i = a.o ∧ a.i ≠ 0) {w : List Int} {c : Int} : CW D D.start w c ↔ Wt D w w c :=
  ⟨fun ⟨t, d, h1, h2, h3⟩ => ⟨t, d, rd_way hL h1, h2, h3⟩, fun ⟨t, d, h1, h2, h3⟩ => ⟨t, d, (way_rd hL h1).2, h2, h3⟩⟩
theorem IsUs.co {F U : TF} (h : IsUs F U) (hF : FRng F) (hL : ∀ a ∈ F.arcs, a.i = a.o ∧ a.i ≠ 0) (hn : ∃ w c, CW U U.start w c) : ∀ s, 0 ≤ s ∧ s < U.st → ∃ w c, CW U s w c := by
  have hLU : ∀ a ∈ U.arcs, a.i = a.o ∧ a.i ≠ 0 := fun a ha => by
    obtain ⟨b, hb, e1, e2, _⟩ := h.arcs ha
    rw [e1, e2]; exact hL b hb
  obtain ⟨p, hp, h1, h2, h3, h4⟩ := h
  intro s hs
  by_cases hps : p F.start.toNat = true
  · have e1 : (kT F p).arcs = karc p F.arcs F.arcs.length := by unfold kT; rw [if_pos hps]
    have e2 : (kT F p).st = (rkB p F.st.toNat : Nat) := by unfold kT; rw [if_pos hps]
    have e3 : (kT F p).fin = kfin p F.fin F.st.toNat := by unfold kT; rw [if_pos hps]
    rw [e1] at h4
    rw [e2] at h1
    rw [e3] at h3
    obtain ⟨j, hj, hpj, hrk⟩ := rkB_sur (p := p) (n := F.st.toNat) (r := s.toNat) (by omega)
    obtain ⟨r1, e, r2, r3, r4⟩ := (hp.iff j hj).1 hpj
    obtain ⟨w, c, t, d, hr, hf, _⟩ := rch_cw (e := (e : Int)) (by rw [Int.toNat_natCast]; exact r3) r4
    obtain ⟨i1, i2, i3, i4, i5, i6⟩ := keep_way hF hp (rd_way hL hr) ⟨by omega, by omega⟩ r1 hf
    rw [h4] at hLU
    have hw := (way_rd hLU i6).2
    rw [Int.toNat_natCast, hrk, show ((s.toNat : Nat) : Int) = s by omega] at hw
    refine ⟨w, d + U.fin.getD (rkB p t.toNat) 0, (rkB p t.toNat : Nat), d, by rw [h4]; exact hw, ?_, by rw [Int.toNat_natCast]⟩
    rw [Int.toNat_natCast, h3, kfin_get F.fin (by omega) i3]
    exact hf
  · exfalso
    have e1 : (kT F p).arcs = [] := by unfold kT; rw [if_neg hps]
    have e2 : (kT F p).start = 0 := by unfold kT; rw [if_neg hps]
    have e3 : (kT F p).fin = [-1] := by unfold kT; rw [if_neg hps]
    obtain ⟨w, c, t, d, hr, hf, _⟩ := hn
    obtain ⟨_, rfl, _⟩ := hr.empty (h4.trans e1)
    rw [h2, h3, e2, e3] at hf
    exact hf rfl
section
variable {F U : TF} {st : DS} (h : DetH F U st)
include h
theorem DetH.detD (cf ca : Nat) : DetD (mkD U st cf ca) := by
  have hr := h.ri
  refine ⟨hr.srt, fun a ha b hb e1 e2 => ?_⟩
  obtain ⟨j, x, _, _, _, _, _, rfl⟩ := hr.snd a ha
  obtain ⟨k, y, _, _, _, _, _, rfl⟩ := hr.snd b hb
  have e1 : (j : Int) = (k : Int) := e1
  have e2 : x = y := e2
  have e3 : j = k := by omega
  rw [e3, e2]
theorem DetH.rngD (cf ca : Nat) : ∀ a ∈ (mkD U st cf ca).arcs, (0 ≤ a.f ∧ a.f < (mkD U st cf ca).st) ∧ (0 ≤ a.t ∧ a.t < (mkD U st cf ca).st) ∧ (1 ≤ a.i ∧ a.i ≤ 9) ∧ a.i = a.o := fun a ha => by
  obtain ⟨j, x, q1, q2, q3, q4, q5, q6, q7, q8, q9, q10⟩ := h.ri.arc ha
  show (0 ≤ a.f ∧ a.f < ((st.1.length : Nat) : Int)) ∧ (0 ≤ a.t ∧ a.t < ((st.1.length : Nat) : Int)) ∧ _
  omega
theorem DetH.cw1 {cf ca : Nat} {w : List Int} {c : Int} (hc : CW (mkD U st cf ca) 0 w c) : MinOf (CW U U.start w) c := by
  obtain ⟨t, d, h1, h2, rfl⟩ := hc
  have hm := h.ri.endm h.hU h.hfin h1
  have ht := h1.rng (n := (mkD U st cf ca).st) (fun a ha => (h.rngD cf ca a ha).2.1) ⟨Int.le_refl _, by show (0 : Int) < ((st.1.length : Nat) : Int); have := h.ri.len; omega⟩
  have ht2 : t.toNat < st.1.length := by have : t < ((st.1.length : Nat) : Int) := ht.2; omega
  have h2 : (st.1.map (finD U)).getD t.toNat 0 ≠ -1 := h2
  show MinOf _ (d + (st.1.map (finD U)).getD t.toNat 0)
  rw [mkD_fin ht2] at h2 ⊢
  rw [if_neg h2] at hm
  exact hm
theorem DetH.cw2 {cf ca : Nat} {w : List Int} {c : Int} (hc : CW U U.start w c) : ∃ m, m ≤ c ∧ CW (mkD U st cf ca) 0 w m := by
  obtain ⟨t, d, h1, h2, h3⟩ := hc
  obtain ⟨j, e, hj, hr⟩ := h.ri.reads h.hU (fun a ha => (h.hlet a ha).1) ⟨t, d, h1⟩
  have hm := h.ri.endm h.hU h.hfin hr
  have hle := hm.le ⟨t, d, h1, h2, h3⟩
  rw [Int.toNat_natCast] at hle
  by_cases e2 : finD U (st.1.getD j []) = -1
  · rw [if_pos e2] at hle; exact absurd rfl hle.1
  · rw [if_neg e2] at hle
    refine ⟨_, hle.2, (j : Int), e, hr, ?_, ?_⟩
    · show (st.1.map (finD U)).getD _ 0 ≠ -1
      rw [Int.toNat_natCast, mkD_fin hj]; exact e2
    · show _ = e + (st.1.map (finD U)).getD _ 0
      rw [Int.toNat_natCast, mkD_fin hj]
theorem DetH.co (hn : ∃ w c, CW U U.start w c) (cf ca : Nat) {j : Nat} (hj : j < st.1.length) : ∃ w c, CW (mkD U st cf ca) j w c := by
  obtain ⟨h1, h2, h3⟩ := h.small
  have hne := h1.ne _ (getD_mem st.1 j [] hj)
  obtain ⟨e, he⟩ := List.exists_mem_of_ne_nil _ hne
  have hok := (h1.ok j hj).rng e he
  obtain ⟨w0, d0, hr⟩ := h.ri.rch j hj
  have hsub := h.ri.sub h.hU hr
  rw [Int.toNat_natCast] at hsub
  have hp := (hsub.min e he).is (by have := hsub.r0; have := hsub.b0 e he; omega)
  obtain ⟨v, c, t, d, g1, g2, g3⟩ := h.us.co h.wok.toFRng h.lets hn e.a hok.1
  obtain ⟨m, _, t', d', k1, k2, k3⟩ := h.cw2 (cf := cf) (ca := ca) (w := w0 ++ v) (c := _) ⟨t, _, hp.app g1, g2, rfl⟩
  obtain ⟨q, x, y, l1, l2, l3⟩ := k1.split
  obtain ⟨rfl, _⟩ := RdW.det (h.detD cf ca) l1 hr
  exact ⟨v, _, t', y, l2, k2, rfl⟩
end
theorem rkB_id {p : Nat → Bool} {n : Nat} (hp : ∀ j, j < n → p j = true) : ∀ k, k ≤ n → rkB p k = k
  | 0, _ => rfl
  | k + 1, hk => by
    show (if p k = true then rkB p k + 1 else rkB p k) = k + 1
    rw [if_pos (hp k (by omega)), rkB_id hp k (by omega)]
theorem kfin_id {p : Nat → Bool} {fin : List Int} (hp : ∀ j, j < fin.length → p j = true) : ∀ k, k ≤ fin.length → kfin p fin k = fin.take k
  | 0, _ => by simp [kfin]
  | k + 1, hk => by
    show (if p k = true then kfin p fin k ++ [fin.getD k 0] else kfin p fin k) = _
    rw [if_pos (hp k (by omega)), kfin_id hp k (by omega), List.take_add_one]
    simp [List.getD, show k < fin.length by omega]
theorem karc_id {p : Nat → Bool} {l : List Arc} {n : Nat} (hp : ∀ j, j < n → p j = true) (hl : ∀ a ∈ l, (0 ≤ a.f ∧ a.f < n) ∧ (0 ≤ a.t ∧ a.t < n)) : ∀ k, k ≤ l.length → karc p l k = l.take k
  | 0, _ => by simp [karc]
  | k + 1, hk => by
    have ha := hl _ (getD_mem l k aD (by omega))
    show (if kOk p (l.getD k aD) = true then karc p l k ++ [kArc p (l.getD k aD)] else karc p l k) = _
    have e1 : kOk p (l.getD k aD) = true := by unfold kOk; rw [hp _ (by omega), hp _ (by omega)]; rfl
    have e2 : kArc p (l.getD k aD) = l.getD k aD := by
      unfold kArc
      rw [rkB_id hp _ (by omega), rkB_id hp _ (by omega), show (((l.getD k aD).f.toNat : Nat) : Int) = (l.getD k aD).f by omega, show (((l.getD k aD).t.toNat : Nat) : Int) = (l.getD k aD).t by omega]
    rw [if_pos e1, e2, karc_id hp hl k (by omega), List.take_add_one]
    simp [List.getD, show k < l.length by omega]
theorem kT_id {D : TF} {p : Nat → Bool} (hD : FRng D) (hs : 0 ≤ D.start ∧ D.start < D.st) (hp : ∀ j, j < D.st.toNat → p j = true) : kT D p = ⟨D.st, D.start, D.fin, D.arcs, 0, 0⟩ := by
  have hst := hD.st
  have hfl := hD.finl
  have e : D.st.toNat = D.fin.length := by omega
  unfold kT
  rw [if_pos (hp _ (by omega)), rkB_id hp _ (Nat.le_refl _), rkB_id hp _ (by omega), karc_id hp (fun a ha => by have := hD.arc a ha; omega) _ (Nat.le_refl _), e, kfin_id (by rw [← e]; exact hp) _ (Nat.le_refl _), List.take_length, List.take_length]
  rw [show ((D.fin.length : Nat) : Int) = D.st by omega, show ((D.start.toNat : Nat) : Int) = D.start by omega]
theorem FRng.ofB {D : TF} (h : FOkB D) : FRng D := by
  have := h.st
  have := h.arcl
  exact ⟨⟨by omega, by omega⟩, h.finl, by omega, fun a ha => ⟨(h.arc a ha).f0, (h.arc a ha).f1, (h.arc a ha).t0, (h.arc a ha).t1⟩⟩
theorem kT_okB {D : TF} (h : FOkB D) (p : Nat → Bool) (c1 c2 : Nat) : FOkB ⟨(kT D p).st, (kT D p).start, (kT D p).fin, (kT D p).arcs, c1, c2⟩ := by
  have hR := FRng.ofB h
  obtain ⟨f1, f2, f3⟩ := fr_kT hR h.start p c1 c2
  have hst := h.st
  have hal := h.arcl
  have hfl := h.finl
  refine ⟨⟨by show 1 ≤ (kT D p).st; omega, by show (kT D p).st ≤ 200; omega⟩, f2, f1.finl, ?_, ?_, ?_⟩
  · show ∀ n ∈ (kT D p).fin, _
    unfold kT
    split
    · intro n hn
      obtain ⟨j, hj, rfl⟩ := kfin_mem D.fin hn
      exact h.fin _ (getD_mem D.fin j 0 (by omega))
    · intro n hn
      have : n = -1 := by simpa using hn
      omega
  · show (kT D p).arcs.length ≤ 3000
    unfold kT
    split
    · have := karc_len p D.arcs D.arcs.length
      show (karc p D.arcs D.arcs.length).length ≤ 3000
      omega
    · simp
  · intro a ha
    have hr := f1.arc a ha
    have : ∀ a ∈ (kT D p).arcs, ∃ b ∈ D.arcs, a.i = b.i ∧ a.o = b.o ∧ a.w = b.w := by
      unfold kT
      split
      · intro a ha
        obtain ⟨b, hb, _, _, rfl⟩ := mem_karcs.1 ha
        exact ⟨b, hb, rfl, rfl, rfl⟩
      · intro a ha; cases ha
    obtain ⟨b, hb, e1, e2, e3⟩ := this a ha
    have hb := h.arc b hb
    exact ⟨hr.1, hr.2.1, hr.2.2.1, hr.2.2.2, e1 ▸ hb.i0, e2 ▸ hb.o0, by rw [e3]; exact hb.w0, by rw [e3]; exact hb.w1⟩
section
variable {F U : TF} {st : DS} (h : DetH F U st) (h12 : F.st ≤ 12)
include h h12
theorem DetH.all (hn : ∃ w c, CW U U.start w c) {cf ca : Nat} {p : Nat → Bool} (hp : UsOk (mkD U st cf ca) p) : kT (mkD U st cf ca) p = ⟨(st.1.length : Nat), 0, st.1.map (finD U), st.2, 0, 0⟩ := by
  have hB := (h.fokB h12 cf ca).1
  refine kT_id (FRng.ofB hB) hB.start fun j hj => ?_
  have hj2 : j < st.1.length := by
    have : j < ((st.1.length : Nat) : Int).toNat := hj
    omega
  refine (hp.iff j hj).2 ⟨?_, ?_⟩
  · obtain ⟨w, d, hr⟩ := h.ri.rch j hj2
    exact rd_rch hr (.here (List.mem_singleton.2 rfl))
  · obtain ⟨w, c, hw⟩ := h.co hn cf ca hj2
    exact cw_rch (fun a ha => (h.rngD cf ca a ha).2.1) w j c ⟨by omega, by show (j : Int) < ((st.1.length : Nat) : Int); omega⟩ hw
theorem DetH.none (hn : ¬ ∃ w c, CW U U.start w c) {cf ca : Nat} {p : Nat → Bool} (hp : UsOk (mkD U st cf ca) p) (c1 c2 : Nat) :
    (onS ⟨(kT (mkD U st cf ca) p).st, (kT (mkD U st cf ca) p).start, (kT (mkD U st cf ca) p).fin, (kT (mkD U st cf ca) p).arcs, c1, c2⟩).1.getD (kT (mkD U st cf ca) p).start.toNat 0 = -1 := by
  have hB := (h.fokB h12 cf ca).1
  have hk := kT_okB hB p c1 c2
  have hs := hk.start
  simp only at hs
  refine Classical.byContradiction fun hc => hn ?_
  have hm := onS_min hk (q := (kT (mkD U st cf ca) p).start.toNat) (by simp only; omega)
  obtain ⟨w, hw⟩ := hm.is hc
  rw [show (((kT (mkD U st cf ca) p).start.toNat : Nat) : Int) = (kT (mkD U st cf ca) p).start by omega] at hw
  have hL : ∀ a ∈ (mkD U st cf ca).arcs, a.i = a.o ∧ a.i ≠ 0 := fun a ha => by have := h.rngD cf ca a ha; omega
  have hLk : ∀ a ∈ (kT (mkD U st cf ca) p).arcs, a.i = a.o ∧ a.i ≠ 0 := by
    unfold kT
    split
    · intro a ha
      obtain ⟨b, hb, _, _, rfl⟩ := mem_karcs.1 ha
      exact hL b hb
    · intro a ha; cases ha
  have h1 : Wt (kT (mkD U st cf ca) p) w w _ := (cw_wt hLk).1 hw
  have h2 := (cw_wt hL).2 ((useful_wt (FRng.ofB hB) hB.start hp).1 h1)
  exact ⟨w, _, (h.cw1 h2).is (by have := CW.pos hB _ _ _ h2; omega)⟩
end
end Go.Fw

namespace Go.Fw
open Go Go.Proofs
def bstW (U : TF) (W vs : List (List Int)) : Nat → Nat → Int
  | 0, i => endW U vs i
  | f + 1, i => (List.range 9).foldl (fun (b : Int) (c : Nat) => if 0 ≤ onI W i ((c : Int) + 1) then less b (bstW U W vs f (onI W i ((c : Int) + 1)).toNat) else b) (endW U vs i)
def bstP (U : TF) (W vs : List (List Int)) (f i k : Nat) : Int := (List.range k).foldl (fun (b : Int) (c : Nat) => if 0 ≤ onI W i ((c : Int) + 1) then less b (bstW U W vs f (onI W i ((c : Int) + 1)).toNat) else b) (endW U vs i)
theorem bstP_succ (U : TF) (W vs : List (List Int)) (f i k : Nat) : bstP U W vs f i (k + 1) = if 0 ≤ onI W i ((k : Int) + 1) then less (bstP U W vs f i k) (bstW U W vs f (onI W i ((k : Int) + 1)).toNat) else bstP U W vs f i k := by
  unfold bstP
  rw [List.range_succ, List.foldl_append]
  rfl
end Go.Fw

namespace Go.Fw
open Go Go.Proofs
instance {a b : Bool} : CB (!(a == b)) (¬ a = b) (a = b) := ⟨fun h => by simpa using h, fun h => by simpa using h⟩
def alE (p q x y : Int) : Bool := !(decide (p < 0) != decide (q < 0) || (decide (p ≥ 0) && decide (p - x ≠ q - y)))
def alkW (U : TF) (W vs : List (List Int)) : Nat → Nat → Nat → Int → Int → Bool
  | 0, _, _, _, _ => true
  | f + 1, i, k, x, y => alE (endW U vs i) (endW U vs k) x y && (List.range 9).all fun (c : Nat) =>
    if decide (onI W i ((c : Int) + 1) < 0) != decide (onI W k ((c : Int) + 1) < 0) then false
    else if 0 ≤ onI W i ((c : Int) + 1) then alkW U W vs f (onI W i ((c : Int) + 1)).toNat (onI W k ((c : Int) + 1)).toNat x y else true
def alkS (U : TF) (W vs : List (List Int)) (f i k : Nat) (x y : Int) (c : Nat) : Bool :=
  if decide (onI W i ((c : Int) + 1) < 0) != decide (onI W k ((c : Int) + 1) < 0) then false
    else if 0 ≤ onI W i ((c : Int) + 1) then alkW U W vs f (onI W i ((c : Int) + 1)).toNat (onI W k ((c : Int) + 1)).toNat x y else true
end Go.Fw
