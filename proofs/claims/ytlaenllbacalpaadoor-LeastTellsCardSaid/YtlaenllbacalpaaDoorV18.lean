/-
  Distances to the ends, told by words; what costs are pushed ahead.
-/
import Derived.Test.YtlaenllbacalpaaDoorV17
import Derived.Test.YtlaenllbacalpaaDoorV16

set_option linter.unusedSimpArgs false
set_option linter.unusedVariables false

namespace Go.Fw

section
variable {F : TF} (hF : FOkB F)
include hF

theorem onS_sol : Sol (F.arcs.map swap) F.fin (onS F).1 := by
  have hb := fin_bdB hF
  have e : F.st.toNat = F.fin.length := by have := hb.len; omega
  unfold onS
  rw [e]
  exact (settled_solB (fun a ha => by
    obtain ⟨b, hb, rfl⟩ := List.mem_map.1 ha
    exact swap_okB (hF.arc b hb)) hb).1

theorem onS_low {q : Nat} (hq : q < F.st.toNat) : -1 ≤ (onS F).1.getD q 0 := by
  have := (onS_bdB hF).at (i := (q : Int)) (by omega) (by omega)
  rw [Int.toNat_natCast] at this
  exact this.1

theorem onS_le : ∀ (w : List Int) (q c : Int), 0 ≤ q ∧ q < F.st → CW F q w c → (onS F).1.getD q.toNat 0 ≠ -1 ∧ (onS F).1.getD q.toNat 0 ≤ c
  | [], q, c, hq, h => by
    obtain ⟨h1, rfl⟩ := CW.nil.1 h
    have hfl := hF.finl
    exact (onS_sol hF).s1 q.toNat (by omega) h1
  | x :: u, q, c, hq, h => by
    obtain ⟨a, ha, rfl, rfl, h1⟩ := CW.cons.1 h
    have hr := hF.arc a ha
    obtain ⟨g1, g2⟩ := onS_le u a.t _ ⟨hr.t0, hr.t1⟩ h1
    have hl := onS_low hF (q := a.t.toNat) (by have := hr.t0; have := hr.t1; omega)
    have hw := hr.w0
    have := (onS_sol hF).s2 (swap a) (List.mem_map_of_mem ha) g1 (show (onS F).1.getD a.t.toNat 0 + a.w ≠ -1 by omega)
    have g3 : (onS F).1.getD a.f.toNat 0 ≠ -1 ∧ (onS F).1.getD a.f.toNat 0 ≤ (onS F).1.getD a.t.toNat 0 + a.w := this
    exact ⟨g3.1, by omega⟩

theorem rn_cw {k v : Nat} {c : Int} (h : RN (F.arcs.map swap) F.fin k v c) : ∃ w, CW F v w c := by
  induction h with
  | base hv hc => exact ⟨[], CW.nil.2 ⟨by rw [Int.toNat_natCast]; exact hc, by rw [Int.toNat_natCast]⟩⟩
  | step h ha ih =>
    rename_i k a c
    obtain ⟨w, hw⟩ := ih
    obtain ⟨b, hb, rfl⟩ := List.mem_map.1 ha
    have hr := hF.arc b hb
    have e1 : (((swap b).f.toNat : Nat) : Int) = b.t := by show ((b.t.toNat : Nat) : Int) = b.t; have := hr.t0; omega
    have e2 : (((swap b).t.toNat : Nat) : Int) = b.f := by show ((b.f.toNat : Nat) : Int) = b.f; have := hr.f0; omega
    rw [e1] at hw
    rw [e2]
    exact ⟨b.i :: w, CW.cons.2 ⟨b, hb, rfl, rfl, by rw [show c + (swap b).w - b.w = c by show c + b.w - b.w = c; omega]; exact hw⟩⟩

theorem CW.pos : ∀ (w : List Int) (q c : Int), CW F q w c → 0 ≤ c
  | [], q, c, h => by
    obtain ⟨h1, rfl⟩ := CW.nil.1 h
    by_cases hj : q.toNat < F.fin.length
    · have := (hF.fin _ (getD_mem F.fin q.toNat 0 hj)).1
      omega
    · simp only [List.getD, List.getElem?_eq_none (show F.fin.length ≤ q.toNat by omega), Option.getD_none]; omega
  | x :: u, q, c, h => by
    obtain ⟨a, ha, rfl, rfl, h1⟩ := CW.cons.1 h
    have := (hF.arc a ha).w0
    have := CW.pos u _ _ h1
    omega

/-- The distance from a state is the least of all words from there on. -/
theorem onS_min {q : Nat} (hq : q < F.st.toNat) : MinOf (fun c => ∃ w, CW F q w c) ((onS F).1.getD q 0) := by
  have hl := onS_low hF hq
  have hle : ∀ c, (∃ w, CW F q w c) → (onS F).1.getD q 0 ≠ -1 ∧ (onS F).1.getD q 0 ≤ c := fun c ⟨w, hw⟩ => by
    have := onS_le hF w (q : Int) c ⟨by omega, by omega⟩ hw
    rwa [Int.toNat_natCast] at this
  by_cases e : (onS F).1.getD q 0 = -1
  · exact .inl ⟨e, fun c hc => (hle c hc).1 e⟩
  · have hb := fin_bdB hF
    have hbl := hb.len
    obtain ⟨k, _, hk⟩ := (onS_sol hF).s3 q (by omega) e
    exact .inr ⟨by omega, rn_cw hF hk, fun c hc => (hle c hc).2⟩
end

/-- What is pushed. -/
def phT (F : TF) (c1 c2 : Nat) : TF := ⟨F.st, F.start, pushF (onS F).1 F.fin F.fin.length, pushL (onS F).1 F.arcs, c1, c2⟩

section
variable {F : TF} (hF : FOkB F) {c1 c2 : Nat}
include hF

theorem ph_fin {q : Nat} (hq : q < F.st.toNat) : (phT F c1 c2).fin.getD q 0 = if F.fin.getD q 0 ≠ -1 then F.fin.getD q 0 - (onS F).1.getD q 0 else -1 := by
  have hfl := hF.finl
  have hq2 : q < F.fin.length := by omega
  show (pushF (onS F).1 F.fin F.fin.length).getD q 0 = _
  rw [pushF_getD _ _ _ _ hq2]
  unfold pushV
  by_cases e : F.fin.getD q 0 = -1
  · rw [if_neg (fun c => c.2 e), if_neg (fun c => c e), e]
  · rw [if_pos ⟨hq2, e⟩, if_pos e]

theorem ph_cw : ∀ (w : List Int) (q c : Int), 0 ≤ q ∧ q < F.st → (CW (phT F c1 c2) q w c ↔ CW F q w (c + (onS F).1.getD q.toNat 0))
  | [], q, c, hq => by
    have hfin := ph_fin hF (c1 := c1) (c2 := c2) (q := q.toNat) (by omega)
    rw [CW.nil, CW.nil, hfin]
    have hle := onS_le hF [] q (F.fin.getD q.toNat 0) hq
    by_cases e : F.fin.getD q.toNat 0 = -1
    · rw [if_neg (fun c => c e)]
      exact ⟨fun h => absurd rfl h.1, fun h => absurd e h.1⟩
    · have := hle (CW.nil.2 ⟨e, rfl⟩)
      rw [if_pos e]
      constructor
      · rintro ⟨_, h⟩; exact ⟨e, by omega⟩
      · rintro ⟨_, h⟩; exact ⟨by omega, by omega⟩
  | x :: u, q, c, hq => by
    rw [CW.cons, CW.cons]
    constructor
    · rintro ⟨b, hb, e1, e2, h⟩
      obtain ⟨a, ha, g1, g2, rfl⟩ := pushL_mem.1 hb
      have hr := hF.arc a ha
      simp only at e1 e2 h
      rw [ph_cw u a.t _ ⟨hr.t0, hr.t1⟩] at h
      refine ⟨a, ha, e1, e2, ?_⟩
      rw [← e1]
      rwa [show c - (a.w + ((onS F).1.getD a.t.toNat 0 - (onS F).1.getD a.f.toNat 0)) + (onS F).1.getD a.t.toNat 0 = c + (onS F).1.getD a.f.toNat 0 - a.w by omega] at h
    · rintro ⟨a, ha, e1, e2, h⟩
      have hr := hF.arc a ha
      have g1 := (onS_le hF u a.t _ ⟨hr.t0, hr.t1⟩ h).1
      have g2 := (onS_le hF (x :: u) q _ hq (CW.cons.2 ⟨a, ha, e1, e2, h⟩)).1
      rw [← e1] at g2 h
      refine ⟨_, pushL_mem.2 ⟨a, ha, g2, g1, rfl⟩, e1, e2, ?_⟩
      simp only
      rw [ph_cw u a.t _ ⟨hr.t0, hr.t1⟩]
      rwa [show c - (a.w + ((onS F).1.getD a.t.toNat 0 - (onS F).1.getD a.f.toNat 0)) + (onS F).1.getD a.t.toNat 0 = c + (onS F).1.getD a.f.toNat 0 - a.w by omega]

omit hF in
theorem ph_det (hd : DetD F) : DetD (phT F c1 c2) := by
  refine ⟨push_srt hd.srt, fun a ha b hb e1 e2 => ?_⟩
  obtain ⟨a', ha', _, _, rfl⟩ := pushL_mem.1 ha
  obtain ⟨b', hb', _, _, rfl⟩ := pushL_mem.1 hb
  have := hd.one a' ha' b' hb' e1 e2
  rw [this]

theorem ph_psh (hco : ∀ q : Nat, q < F.st.toNat → ∃ w c, CW F q w c) : Psh (phT F c1 c2) := by
  intro q hq
  have hq : q < F.st.toNat := hq
  have hm := onS_min hF hq
  have hr : 0 ≤ (q : Int) ∧ (q : Int) < F.st := by omega
  obtain ⟨w0, c0, h0⟩ := hco q hq
  obtain ⟨w, hw⟩ := hm.is (hm.le ⟨w0, h0⟩).1
  refine ⟨⟨w, (ph_cw hF w q 0 hr).2 (by rw [Int.zero_add, Int.toNat_natCast]; exact hw)⟩, fun v c hv => ?_⟩
  have := (ph_cw hF v q c hr).1 hv
  rw [Int.toNat_natCast] at this
  have := (hm.le ⟨v, this⟩).2
  omega

omit hF in
theorem nowB_push : ∀ (k : Nat) (v : Int), nowB (pushL (onS F).1 F.arcs) k v = true → nowB F.arcs k v = true
  | 0, _, _ => rfl
  | k + 1, v, h => by
    obtain ⟨b, hb, e1, e2⟩ := nowB_iff.1 h
    obtain ⟨a, ha, _, _, rfl⟩ := pushL_mem.1 hb
    exact nowB_iff.2 ⟨a, ha, e1, nowB_push k _ e2⟩
omit hF in
theorem ph_round (h : roundB F.arcs F.st.toNat = false) : roundB (phT F c1 c2).arcs (phT F c1 c2).st.toNat = false := by
  unfold roundB at h ⊢
  rw [List.any_eq_false] at h ⊢
  intro v hv
  exact fun hc => h v hv (nowB_push _ _ hc)

theorem ph_dfst (hd : ∀ q : Nat, q < F.st.toNat → (onS F).1.getD q 0 ≠ -1 ∧ (onS F).1.getD q 0 ≤ 1000000000000) : DFst (phT F c1 c2) := by
  have hfl := hF.finl
  have hst := hF.st
  have hal := hF.arcl
  have hlen : (pushL (onS F).1 F.arcs).length ≤ F.arcs.length := List.length_filterMap_le _ _
  have hmem : ∀ b ∈ pushL (onS F).1 F.arcs, ∃ a ∈ F.arcs, b.f = a.f ∧ b.t = a.t ∧ b.i = a.i ∧ 0 ≤ b.w ∧ b.w ≤ 10000000000000 := fun b hb => by
    obtain ⟨a, ha, g1, g2, rfl⟩ := pushL_mem.1 hb
    have hr := hF.arc a ha
    have hw := hr.w0
    have hw1 := hr.w1
    have h1 := hd a.t.toNat (by have := hr.t0; have := hr.t1; omega)
    have h2 := hd a.f.toNat (by have := hr.f0; have := hr.f1; omega)
    have l1 := onS_low hF (q := a.t.toNat) (by have := hr.t0; have := hr.t1; omega)
    have l2 := onS_low hF (q := a.f.toNat) (by have := hr.f0; have := hr.f1; omega)
    have := (onS_sol hF).s2 (swap a) (List.mem_map_of_mem ha) g2 (show (onS F).1.getD a.t.toNat 0 + a.w ≠ -1 by omega)
    have g3 : (onS F).1.getD a.f.toNat 0 ≠ -1 ∧ (onS F).1.getD a.f.toNat 0 ≤ (onS F).1.getD a.t.toNat 0 + a.w := this
    exact ⟨a, ha, rfl, rfl, rfl, by simp only; omega, by simp only; omega⟩
  refine ⟨⟨⟨by show 0 ≤ F.st; omega, by show F.st ≤ _; omega⟩, by show ((pushF _ _ _).length : Int) = F.st; rw [pushF_len]; exact hfl, by show (pushL _ _).length ≤ _; omega, fun b hb => ?_⟩, by show F.st ≤ 1000; omega, by show (pushL _ _).length ≤ 10000; omega, fun b hb => ?_, fun b hb => ?_, fun n hn => ?_⟩
  · obtain ⟨a, ha, e1, e2, _⟩ := hmem b hb
    have hr := hF.arc a ha
    rw [e1, e2]
    exact ⟨hr.f0, hr.f1, hr.t0, hr.t1⟩
  · obtain ⟨a, ha, e1, e2, e3, _⟩ := hmem b hb
    have hr := hF.arc a ha
    rw [e3]
    have := hr.i0
    omega
  · obtain ⟨a, ha, e1, e2, e3, e4⟩ := hmem b hb
    exact e4
  · obtain ⟨j, hj, rfl⟩ := List.mem_iff_getElem.1 hn
    have hj2 : j < F.fin.length := by
      have : (phT F c1 c2).fin.length = F.fin.length := pushF_len _ _ _
      omega
    have e : (phT F c1 c2).fin[j] = (phT F c1 c2).fin.getD j 0 := by simp [List.getD, hj]
    rw [e, ph_fin hF (by omega)]
    have hf := hF.fin _ (getD_mem F.fin j 0 hj2)
    by_cases e2 : F.fin.getD j 0 = -1
    · rw [if_neg (fun c => c e2)]; omega
    · rw [if_pos e2]
      have h1 := onS_le hF [] (j : Int) _ ⟨by omega, by omega⟩ (CW.nil.2 ⟨by rw [Int.toNat_natCast]; exact e2, rfl⟩)
      rw [Int.toNat_natCast] at h1
      have := onS_low hF (q := j) (by omega)
      omega
end
end Go.Fw

/-
  What is made of one that says something: each state leads to an end.
-/
namespace Go.Fw

theorem RdW.det {D : TF} (hd : DetD D) : ∀ {w : List Int} {s t t' c c' : Int}, RdW D.arcs s w t c → RdW D.arcs s w t' c' → t = t' ∧ c = c'
  | [], s, t, t', c, c', h, h' => by
    obtain ⟨rfl, rfl⟩ := h.none rfl
    obtain ⟨rfl, rfl⟩ := h'.none rfl
    exact ⟨rfl, rfl⟩
  | x :: u, s, t, t', c, c', h, h' => by
    obtain ⟨a, ha, e1, e2, d, h1, rfl⟩ := h.cons_inv
    obtain ⟨b, hb, f1, f2, d', h2, rfl⟩ := h'.cons_inv
    have e := hd.one a ha b hb (e1.trans f1.symm) (e2.trans f2.symm)
    subst e
    obtain ⟨rfl, rfl⟩ := RdW.det hd h1 h2
    exact ⟨rfl, rfl⟩

theorem rkB_sur {p : Nat → Bool} : ∀ {n r : Nat}, r < rkB p n → ∃ j, j < n ∧ p j = true ∧ rkB p j = r
  | 0, r, h => absurd h (Nat.not_lt_zero _)
  | n + 1, r, h => by
    have hs : rkB p (n + 1) = if p n = true then rkB p n + 1 else rkB p n := rfl
    rw [hs] at h
    by_cases hp : p n = true
    · rw [if_pos hp] at h
      by_cases e : r = rkB p n
      · exact ⟨n, by omega, hp, e.symm⟩
      · obtain ⟨j, h1, h2⟩ := rkB_sur (p := p) (n := n) (r := r) (by omega)
        exact ⟨j, by omega, h2⟩
    · rw [if_neg hp] at h
      obtain ⟨j, h1, h2⟩ := rkB_sur (p := p) (n := n) (r := r) h
      exact ⟨j, by omega, h2⟩

theorem rch_cw {D : TF} {e x : Int} (he : D.fin.getD e.toNat 0 ≠ -1) (h : Rch D.arcs true [e] x) : ∃ w c, CW D x w c := by
  induction h with
  | here hx =>
    rw [List.mem_singleton] at hx
    subst hx
    exact ⟨[], _, CW.nil.2 ⟨he, rfl⟩⟩
  | @on x a h ha hs ih =>
    obtain ⟨w, c, hw⟩ := ih
    have hs : a.t = x := hs
    show ∃ w c, CW D a.f w c
    exact ⟨a.i :: w, a.w + c, CW.cons.2 ⟨a, ha, rfl, rfl, by rw [show a.w + c - a.w = c by omega, hs]; exact hw⟩⟩
theorem cw_rch {D : TF} (hr : ∀ a ∈ D.arcs, 0 ≤ a.t ∧ a.t < D.st) : ∀ (w : List Int) (x c : Int), 0 ≤ x ∧ x < D.st → CW D x w c → ∃ e : Nat, e < D.st.toNat ∧ D.fin.getD e 0 ≠ -1 ∧ Rch D.arcs true [(e : Int)] x
  | [], x, c, hx, h => ⟨x.toNat, by omega, (CW.nil.1 h).1, .here (by rw [List.mem_singleton]; omega)⟩
  | y :: u, x, c, hx, h => by
    obtain ⟨a, ha, rfl, rfl, h1⟩ := CW.cons.1 h
    obtain ⟨e, g1, g2, g3⟩ := cw_rch hr u a.t _ (hr a ha) h1
    exact ⟨e, g1, g2, Rch.on (bk := true) g3 ha rfl⟩
theorem rd_rch {L : List Arc} {r s t c : Int} {w : List Int} (h : RdW L s w t c) : Rch L false [r] s → Rch L false [r] t := by
  induction h with
  | nil s => exact fun h => h
  | cons ha h ih => exact fun h' => ih (Rch.on (bk := false) h' ha rfl)

/-- A word's cost, with letters alike on both sides. -/
theorem cw_wt {D : TF} (hL : ∀ a ∈ D.arcs, a.i = a.o ∧ a.i ≠ 0) {w : List Int} {c : Int} : CW D D.start w c ↔ Wt D w w c :=
  ⟨fun ⟨t, d, h1, h2, h3⟩ => ⟨t, d, rd_way hL h1, h2, h3⟩, fun ⟨t, d, h1, h2, h3⟩ => ⟨t, d, (way_rd hL h1).2, h2, h3⟩⟩

/-- All of what is useful leads to an end, if anything does. -/
theorem IsUs.co {F U : TF} (h : IsUs F U) (hF : FRng F) (hL : ∀ a ∈ F.arcs, a.i = a.o ∧ a.i ≠ 0) (hn : ∃ w c, CW U U.start w c) : ∀ s, 0 ≤ s ∧ s < U.st → ∃ w c, CW U s w c := by
  have hLU : ∀ a ∈ U.arcs, a.i = a.o ∧ a.i ≠ 0 := fun a ha => by
    obtain ⟨b, hb, e1, e2, _⟩ := h.arcs ha
    rw [e1, e2]; exact hL b hb
  obtain ⟨p, hp, h1, h2, h3, h4⟩ := h
  intro s hs
  by_cases hps : p F.start.toNat = true
  · have e1 : (kT F p).arcs = karc p F.arcs F.arcs.length := by unfold kT; rw [if_pos hps]
    have e2 : (kT F p).st = (rkB p F.st.toNat : Nat) := by unfold kT; rw [if_pos hps]
    have e3 : (kT F p).fin = kfin p F.fin F.st.toNat := by unfold kT; rw [if_pos hps]
    rw [e1] at h4
    rw [e2] at h1
    rw [e3] at h3
    obtain ⟨j, hj, hpj, hrk⟩ := rkB_sur (p := p) (n := F.st.toNat) (r := s.toNat) (by omega)
    obtain ⟨r1, e, r2, r3, r4⟩ := (hp.iff j hj).1 hpj
    obtain ⟨w, c, t, d, hr, hf, _⟩ := rch_cw (e := (e : Int)) (by rw [Int.toNat_natCast]; exact r3) r4
    obtain ⟨i1, i2, i3, i4, i5, i6⟩ := keep_way hF hp (rd_way hL hr) ⟨by omega, by omega⟩ r1 hf
    rw [h4] at hLU
    have hw := (way_rd hLU i6).2
    rw [Int.toNat_natCast, hrk, show ((s.toNat : Nat) : Int) = s by omega] at hw
    refine ⟨w, d + U.fin.getD (rkB p t.toNat) 0, (rkB p t.toNat : Nat), d, by rw [h4]; exact hw, ?_, by rw [Int.toNat_natCast]⟩
    rw [Int.toNat_natCast, h3, kfin_get F.fin (by omega) i3]
    exact hf
  · exfalso
    have e1 : (kT F p).arcs = [] := by unfold kT; rw [if_neg hps]
    have e2 : (kT F p).start = 0 := by unfold kT; rw [if_neg hps]
    have e3 : (kT F p).fin = [-1] := by unfold kT; rw [if_neg hps]
    obtain ⟨w, c, t, d, hr, hf, _⟩ := hn
    obtain ⟨_, rfl, _⟩ := hr.empty (h4.trans e1)
    rw [h2, h3, e2, e3] at hf
    exact hf rfl

section
variable {F U : TF} {st : DS} (h : DetH F U st)
include h

theorem DetH.detD (cf ca : Nat) : DetD (mkD U st cf ca) := by
  have hr := h.ri
  refine ⟨hr.srt, fun a ha b hb e1 e2 => ?_⟩
  obtain ⟨j, x, _, _, _, _, _, rfl⟩ := hr.snd a ha
  obtain ⟨k, y, _, _, _, _, _, rfl⟩ := hr.snd b hb
  have e1 : (j : Int) = (k : Int) := e1
  have e2 : x = y := e2
  have e3 : j = k := by omega
  rw [e3, e2]

theorem DetH.rngD (cf ca : Nat) : ∀ a ∈ (mkD U st cf ca).arcs, (0 ≤ a.f ∧ a.f < (mkD U st cf ca).st) ∧ (0 ≤ a.t ∧ a.t < (mkD U st cf ca).st) ∧ (1 ≤ a.i ∧ a.i ≤ 9) ∧ a.i = a.o := fun a ha => by
  obtain ⟨j, x, q1, q2, q3, q4, q5, q6, q7, q8, q9, q10⟩ := h.ri.arc ha
  show (0 ≤ a.f ∧ a.f < ((st.1.length : Nat) : Int)) ∧ (0 ≤ a.t ∧ a.t < ((st.1.length : Nat) : Int)) ∧ _
  omega

/-- What a word costs in what is made is the least that it costs. -/
theorem DetH.cw1 {cf ca : Nat} {w : List Int} {c : Int} (hc : CW (mkD U st cf ca) 0 w c) : MinOf (CW U U.start w) c := by
  obtain ⟨t, d, h1, h2, rfl⟩ := hc
  have hm := h.ri.endm h.hU h.hfin h1
  have ht := h1.rng (n := (mkD U st cf ca).st) (fun a ha => (h.rngD cf ca a ha).2.1) ⟨Int.le_refl _, by show (0 : Int) < ((st.1.length : Nat) : Int); have := h.ri.len; omega⟩
  have ht2 : t.toNat < st.1.length := by have : t < ((st.1.length : Nat) : Int) := ht.2; omega
  have h2 : (st.1.map (finD U)).getD t.toNat 0 ≠ -1 := h2
  show MinOf _ (d + (st.1.map (finD U)).getD t.toNat 0)
  rw [mkD_fin ht2] at h2 ⊢
  rw [if_neg h2] at hm
  exact hm

/-- Each word that costs something costs something in what is made. -/
theorem DetH.cw2 {cf ca : Nat} {w : List Int} {c : Int} (hc : CW U U.start w c) : ∃ m, m ≤ c ∧ CW (mkD U st cf ca) 0 w m := by
  obtain ⟨t, d, h1, h2, h3⟩ := hc
  obtain ⟨j, e, hj, hr⟩ := h.ri.reads h.hU (fun a ha => (h.hlet a ha).1) ⟨t, d, h1⟩
  have hm := h.ri.endm h.hU h.hfin hr
  have hle := hm.le ⟨t, d, h1, h2, h3⟩
  rw [Int.toNat_natCast] at hle
  by_cases e2 : finD U (st.1.getD j []) = -1
  · rw [if_pos e2] at hle; exact absurd rfl hle.1
  · rw [if_neg e2] at hle
    refine ⟨_, hle.2, (j : Int), e, hr, ?_, ?_⟩
    · show (st.1.map (finD U)).getD _ 0 ≠ -1
      rw [Int.toNat_natCast, mkD_fin hj]; exact e2
    · show _ = e + (st.1.map (finD U)).getD _ 0
      rw [Int.toNat_natCast, mkD_fin hj]

theorem DetH.co (hn : ∃ w c, CW U U.start w c) (cf ca : Nat) {j : Nat} (hj : j < st.1.length) : ∃ w c, CW (mkD U st cf ca) j w c := by
  obtain ⟨h1, h2, h3⟩ := h.small
  have hne := h1.ne _ (getD_mem st.1 j [] hj)
  obtain ⟨e, he⟩ := List.exists_mem_of_ne_nil _ hne
  have hok := (h1.ok j hj).rng e he
  obtain ⟨w0, d0, hr⟩ := h.ri.rch j hj
  have hsub := h.ri.sub h.hU hr
  rw [Int.toNat_natCast] at hsub
  have hp := (hsub.min e he).is (by have := hsub.r0; have := hsub.b0 e he; omega)
  obtain ⟨v, c, t, d, g1, g2, g3⟩ := h.us.co h.wok.toFRng h.lets hn e.a hok.1
  obtain ⟨m, _, t', d', k1, k2, k3⟩ := h.cw2 (cf := cf) (ca := ca) (w := w0 ++ v) (c := _) ⟨t, _, hp.app g1, g2, rfl⟩
  obtain ⟨q, x, y, l1, l2, l3⟩ := k1.split
  obtain ⟨rfl, _⟩ := RdW.det (h.detD cf ca) l1 hr
  exact ⟨v, _, t', y, l2, k2, rfl⟩
end

theorem rkB_id {p : Nat → Bool} {n : Nat} (hp : ∀ j, j < n → p j = true) : ∀ k, k ≤ n → rkB p k = k
  | 0, _ => rfl
  | k + 1, hk => by
    show (if p k = true then rkB p k + 1 else rkB p k) = k + 1
    rw [if_pos (hp k (by omega)), rkB_id hp k (by omega)]
theorem kfin_id {p : Nat → Bool} {fin : List Int} (hp : ∀ j, j < fin.length → p j = true) : ∀ k, k ≤ fin.length → kfin p fin k = fin.take k
  | 0, _ => by simp [kfin]
  | k + 1, hk => by
    show (if p k = true then kfin p fin k ++ [fin.getD k 0] else kfin p fin k) = _
    rw [if_pos (hp k (by omega)), kfin_id hp k (by omega), List.take_add_one]
    simp [List.getD, show k < fin.length by omega]
theorem karc_id {p : Nat → Bool} {l : List Arc} {n : Nat} (hp : ∀ j, j < n → p j = true) (hl : ∀ a ∈ l, (0 ≤ a.f ∧ a.f < n) ∧ (0 ≤ a.t ∧ a.t < n)) : ∀ k, k ≤ l.length → karc p l k = l.take k
  | 0, _ => by simp [karc]
  | k + 1, hk => by
    have ha := hl _ (getD_mem l k aD (by omega))
    show (if kOk p (l.getD k aD) = true then karc p l k ++ [kArc p (l.getD k aD)] else karc p l k) = _
    have e1 : kOk p (l.getD k aD) = true := by unfold kOk; rw [hp _ (by omega), hp _ (by omega)]; rfl
    have e2 : kArc p (l.getD k aD) = l.getD k aD := by
      unfold kArc
      rw [rkB_id hp _ (by omega), rkB_id hp _ (by omega), show (((l.getD k aD).f.toNat : Nat) : Int) = (l.getD k aD).f by omega, show (((l.getD k aD).t.toNat : Nat) : Int) = (l.getD k aD).t by omega]
    rw [if_pos e1, e2, karc_id hp hl k (by omega), List.take_add_one]
    simp [List.getD, show k < l.length by omega]
theorem kT_id {D : TF} {p : Nat → Bool} (hD : FRng D) (hs : 0 ≤ D.start ∧ D.start < D.st) (hp : ∀ j, j < D.st.toNat → p j = true) : kT D p = ⟨D.st, D.start, D.fin, D.arcs, 0, 0⟩ := by
  have hst := hD.st
  have hfl := hD.finl
  have e : D.st.toNat = D.fin.length := by omega
  unfold kT
  rw [if_pos (hp _ (by omega)), rkB_id hp _ (Nat.le_refl _), rkB_id hp _ (by omega), karc_id hp (fun a ha => by have := hD.arc a ha; omega) _ (Nat.le_refl _), e, kfin_id (by rw [← e]; exact hp) _ (Nat.le_refl _), List.take_length, List.take_length]
  rw [show ((D.fin.length : Nat) : Int) = D.st by omega, show ((D.start.toNat : Nat) : Int) = D.start by omega]

theorem FRng.ofB {D : TF} (h : FOkB D) : FRng D := by
  have := h.st
  have := h.arcl
  exact ⟨⟨by omega, by omega⟩, h.finl, by omega, fun a ha => ⟨(h.arc a ha).f0, (h.arc a ha).f1, (h.arc a ha).t0, (h.arc a ha).t1⟩⟩

/-- What is useful of it is in range too. -/
theorem kT_okB {D : TF} (h : FOkB D) (p : Nat → Bool) (c1 c2 : Nat) : FOkB ⟨(kT D p).st, (kT D p).start, (kT D p).fin, (kT D p).arcs, c1, c2⟩ := by
  have hR := FRng.ofB h
  obtain ⟨f1, f2, f3⟩ := fr_kT hR h.start p c1 c2
  have hst := h.st
  have hal := h.arcl
  have hfl := h.finl
  refine ⟨⟨by show 1 ≤ (kT D p).st; omega, by show (kT D p).st ≤ 200; omega⟩, f2, f1.finl, ?_, ?_, ?_⟩
  · show ∀ n ∈ (kT D p).fin, _
    unfold kT
    split
    · intro n hn
      obtain ⟨j, hj, rfl⟩ := kfin_mem D.fin hn
      exact h.fin _ (getD_mem D.fin j 0 (by omega))
    · intro n hn
      have : n = -1 := by simpa using hn
      omega
  · show (kT D p).arcs.length ≤ 3000
    unfold kT
    split
    · have := karc_len p D.arcs D.arcs.length
      show (karc p D.arcs D.arcs.length).length ≤ 3000
      omega
    · simp
  · intro a ha
    have hr := f1.arc a ha
    have : ∀ a ∈ (kT D p).arcs, ∃ b ∈ D.arcs, a.i = b.i ∧ a.o = b.o ∧ a.w = b.w := by
      unfold kT
      split
      · intro a ha
        obtain ⟨b, hb, _, _, rfl⟩ := mem_karcs.1 ha
        exact ⟨b, hb, rfl, rfl, rfl⟩
      · intro a ha; cases ha
    obtain ⟨b, hb, e1, e2, e3⟩ := this a ha
    have hb := h.arc b hb
    exact ⟨hr.1, hr.2.1, hr.2.2.1, hr.2.2.2, e1 ▸ hb.i0, e2 ▸ hb.o0, by rw [e3]; exact hb.w0, by rw [e3]; exact hb.w1⟩

section
variable {F U : TF} {st : DS} (h : DetH F U st) (h12 : F.st ≤ 12)
include h h12

theorem DetH.all (hn : ∃ w c, CW U U.start w c) {cf ca : Nat} {p : Nat → Bool} (hp : UsOk (mkD U st cf ca) p) : kT (mkD U st cf ca) p = ⟨(st.1.length : Nat), 0, st.1.map (finD U), st.2, 0, 0⟩ := by
  have hB := (h.fokB h12 cf ca).1
  refine kT_id (FRng.ofB hB) hB.start fun j hj => ?_
  have hj2 : j < st.1.length := by
    have : j < ((st.1.length : Nat) : Int).toNat := hj
    omega
  refine (hp.iff j hj).2 ⟨?_, ?_⟩
  · obtain ⟨w, d, hr⟩ := h.ri.rch j hj2
    exact rd_rch hr (.here (List.mem_singleton.2 rfl))
  · obtain ⟨w, c, hw⟩ := h.co hn cf ca hj2
    exact cw_rch (fun a ha => (h.rngD cf ca a ha).2.1) w j c ⟨by omega, by show (j : Int) < ((st.1.length : Nat) : Int); omega⟩ hw

/-- If no word costs anything, no end is near. -/
theorem DetH.none (hn : ¬ ∃ w c, CW U U.start w c) {cf ca : Nat} {p : Nat → Bool} (hp : UsOk (mkD U st cf ca) p) (c1 c2 : Nat) :
    (onS ⟨(kT (mkD U st cf ca) p).st, (kT (mkD U st cf ca) p).start, (kT (mkD U st cf ca) p).fin, (kT (mkD U st cf ca) p).arcs, c1, c2⟩).1.getD (kT (mkD U st cf ca) p).start.toNat 0 = -1 := by
  have hB := (h.fokB h12 cf ca).1
  have hk := kT_okB hB p c1 c2
  have hs := hk.start
  simp only at hs
  refine Classical.byContradiction fun hc => hn ?_
  have hm := onS_min hk (q := (kT (mkD U st cf ca) p).start.toNat) (by simp only; omega)
  obtain ⟨w, hw⟩ := hm.is hc
  rw [show (((kT (mkD U st cf ca) p).start.toNat : Nat) : Int) = (kT (mkD U st cf ca) p).start by omega] at hw
  have hL : ∀ a ∈ (mkD U st cf ca).arcs, a.i = a.o ∧ a.i ≠ 0 := fun a ha => by have := h.rngD cf ca a ha; omega
  have hLk : ∀ a ∈ (kT (mkD U st cf ca) p).arcs, a.i = a.o ∧ a.i ≠ 0 := by
    unfold kT
    split
    · intro a ha
      obtain ⟨b, hb, _, _, rfl⟩ := mem_karcs.1 ha
      exact hL b hb
    · intro a ha; cases ha
  have h1 : Wt (kT (mkD U st cf ca) p) w w _ := (cw_wt hLk).1 hw
  have h2 := (cw_wt hL).2 ((useful_wt (FRng.ofB hB) hB.start hp).1 h1)
  exact ⟨w, _, (h.cw1 h2).is (by have := CW.pos hB _ _ _ h2; omega)⟩
end
end Go.Fw

namespace Go.Fw
open Go Go.Proofs

/-- The least that goes on from a beginning. -/
def bstW (U : TF) (W vs : List (List Int)) : Nat → Nat → Int
  | 0, i => endW U vs i
  | f + 1, i => (List.range 9).foldl (fun (b : Int) (c : Nat) => if 0 ≤ onI W i ((c : Int) + 1) then less b (bstW U W vs f (onI W i ((c : Int) + 1)).toNat) else b) (endW U vs i)
def bstP (U : TF) (W vs : List (List Int)) (f i k : Nat) : Int := (List.range k).foldl (fun (b : Int) (c : Nat) => if 0 ≤ onI W i ((c : Int) + 1) then less b (bstW U W vs f (onI W i ((c : Int) + 1)).toNat) else b) (endW U vs i)
theorem bstP_succ (U : TF) (W vs : List (List Int)) (f i k : Nat) : bstP U W vs f i (k + 1) = if 0 ≤ onI W i ((k : Int) + 1) then less (bstP U W vs f i k) (bstW U W vs f (onI W i ((k : Int) + 1)).toNat) else bstP U W vs f i k := by
  unfold bstP
  rw [List.range_succ, List.foldl_append]
  rfl
theorem WSt.onI_rng {U : TF} {W vs : List (List Int)} {par sym : List Int} {i : Nat} {c : Int} (h : WSt U W vs par sym W.length 1) (hi : i < W.length) : onI W i c = -1 ∨ (i : Int) < onI W i c ∧ onI W i c < W.length := by
  by_cases hm : W.getD i [] ++ [c] ∈ W
  · right
    obtain ⟨k, hk, e⟩ := getD_mem2.1 hm
    rw [h.onI_yes hk e]
    have := h.gt hi hk e
    omega
  · left
    unfold onI
    rw [if_neg hm]

set_option maxHeartbeats 8000000 in
set_option maxRecDepth 20000 in
theorem wBest_c (U : TF) (hUf : FOk U) (hU : ∀ a ∈ U.arcs, (0 ≤ a.f ∧ a.f < U.st) ∧ (0 ≤ a.t ∧ a.t < U.st) ∧ 0 ≤ a.w ∧ a.w ≤ 1000000000) (W vs : List (List Int)) (rows : List Sli) (m : List (Addr × List Int × Nat)) (par sym : List Int) (rc pc sc : Nat) (hw : WSt U W vs par sym W.length 1) (hl : W.length ≤ 201) (htab : Tab2 m rows vs.length (fun j => vs.getD j [])) : ∀ (f i : Nat), i < W.length → W.length ≤ i + f →
    Ct Tryd.prog 47 [wV U rows par sym rc pc sc, .i i] [] (hpWd U rows m par sym) 6 (fun v s => v = .i (bstW U W vs f i) ∧ s = ⟨[], [(3, .pool 3 .int m)], 6⟩) := by
  intro f
  induction f with
  | zero => intro i hi h; omega
  | succ f ih =>
    intro i hi hf
    refine ctW Tryd.tyOk 8 [] Tryd.func47 rfl (by simp) (by simp) (fr := [(0, wV U rows par sym rc pc sc), (1, .i i)]) rfl ?_
    repeat' (first | exact rfl | ((conv => whnf); first | (refine qX (fun h => ?_) fun h => ?_ <;> try exact absurd h (by omega)) | refine oN ?_ | refine oM ?_ ?_ | refine bM ?_ ?_ | refine dR ?_))
    (conv => whnf)
    refine cF (wEnd_c U hUf hU W vs rows m par sym rc pc sc hw hl htab i hi) [0, 1, 2, 3, 4, 5] Tryd.call50 ?_
    rintro _ _ ⟨rfl, rfl⟩
    simp only [Nat.reduceAdd, Nat.reduceSub]
    repeat' (first | exact rfl | ((conv => whnf); first | (refine qX (fun h => ?_) fun h => ?_ <;> try exact absurd h (by omega)) | refine oN ?_ | refine oM ?_ ?_ | refine bM ?_ ?_ | refine dR ?_))
    (conv => whnf)
    refine loopI (fun k : Nat => ⟨[(1, .i i), (2, .c (.ptr 6 0)), (5, .i (bstP U W vs f i k)), (6, .i ((k : Int) + 1))], hpWd U rows m par sym ++ [(6, .box 36 (cWo U 0 1 2 4 5 rows.length rc par.length pc sym.length sc))], 7⟩)
      (fun k => k ≤ 9) (fun k => 9 - k) 0 [] ⟨by rfl, ?_, ?_⟩ (Nat.zero_le _) ?_
    · simp [bstP]
    · simp
    · intro k hk
      have hks := bstP_succ U W vs f i k
      have hor := hw.onI_rng (c := (k : Int) + 1) hi
      generalize hb : bstP U W vs f i k = b at *
      (conv => whnf)
      refine condP_dec (fun hk2 => ?_) (fun hk2 => ?_)
      · repeat' (first | exact rfl | ((conv => whnf); first | (refine qX (fun h => ?_) fun h => ?_ <;> try exact absurd h (by omega)) | refine oN ?_ | refine oM ?_ ?_ | refine bM ?_ ?_ | refine dR ?_))
        (conv => whnf)
        refine cF (wOn_c U W vs rows m par sym rc pc sc hw hl i hi ((k : Int) + 1)) [0, 1, 2, 3, 4, 5] Tryd.call51 ?_
        rintro _ _ ⟨rfl, rfl⟩
        generalize hon : onI W i ((k : Int) + 1) = o at *
        simp only [Nat.reduceAdd, Nat.reduceSub]
        repeat' (first | exact rfl | ((conv => whnf); first | (refine qX (fun h => ?_) fun h => ?_ <;> try exact absurd h (by omega)) | refine oN ?_ | refine oM ?_ ?_ | refine bM ?_ ?_ | refine dR ?_))
        · rw [if_pos (by omega)] at hks
          obtain ⟨j, rfl⟩ := Int.eq_ofNat_of_zero_le (show 0 ≤ o by omega)
          rw [Int.toNat_natCast] at hks
          (conv => whnf)
          refine cF (ih j (by omega) (by omega)) [0, 1, 2, 3, 4, 5] Tryd.call47 ?_
          rintro _ _ ⟨rfl, rfl⟩
          simp only [Nat.reduceAdd, Nat.reduceSub]
          repeat' (first | exact rfl | ((conv => whnf); first | (refine qX (fun h => ?_) fun h => ?_ <;> try exact absurd h (by omega)) | refine oN ?_ | refine oM ?_ ?_ | refine bM ?_ ?_ | refine dR ?_))
          (conv => whnf)
          refine cF (less_c b (bstW U W vs f j)) [] Tryd.call41 ?_
          rintro _ _ ⟨rfl, rfl⟩
          simp only [Nat.reduceAdd, Nat.reduceSub]
          repeat' (first | exact rfl | ((conv => whnf); first | (refine qX (fun h => ?_) fun h => ?_ <;> try exact absurd h (by omega)) | refine oN ?_ | refine oM ?_ ?_ | refine bM ?_ ?_ | refine dR ?_))
          (conv => whnf)
          refine ⟨k + 1, [], ⟨by rfl, ?_, ?_⟩, by omega, by omega⟩
          · simp [hks]
          · simp
        · rw [if_neg (by omega)] at hks
          (conv => whnf)
          refine ⟨k + 1, [], ⟨by rfl, ?_, ?_⟩, by omega, by omega⟩
          · simp [hks]
          · simp
      · have e : k = 9 := by omega
        subst e
        have he : bstW U W vs (f + 1) i = b := by rw [← hb]; rfl
        repeat' (first | exact rfl | ((conv => whnf); first | (refine qX (fun h => ?_) fun h => ?_ <;> try exact absurd h (by omega)) | refine oN ?_ | refine oM ?_ ?_ | refine bM ?_ ?_ | refine dR ?_))
        (conv => whnf)
        refine ⟨[], [(3, .pool 3 .int m)], 6, .i (bstW U W vs (f + 1) i), ⟨by rfl, trivial, by simp⟩, by simp [he], rfl, rfl⟩
end Go.Fw

namespace Go.Fw
open Go Go.Proofs

instance {a b : Bool} : CB (!(a == b)) (¬ a = b) (a = b) := ⟨fun h => by simpa using h, fun h => by simpa using h⟩
def alE (p q x y : Int) : Bool := !(decide (p < 0) != decide (q < 0) || (decide (p ≥ 0) && decide (p - x ≠ q - y)))
/-- Do two beginnings go on alike, but for what one costs more? -/
def alkW (U : TF) (W vs : List (List Int)) : Nat → Nat → Nat → Int → Int → Bool
  | 0, _, _, _, _ => true
  | f + 1, i, k, x, y => alE (endW U vs i) (endW U vs k) x y && (List.range 9).all fun (c : Nat) =>
    if decide (onI W i ((c : Int) + 1) < 0) != decide (onI W k ((c : Int) + 1) < 0) then false
    else if 0 ≤ onI W i ((c : Int) + 1) then alkW U W vs f (onI W i ((c : Int) + 1)).toNat (onI W k ((c : Int) + 1)).toNat x y else true
def alkS (U : TF) (W vs : List (List Int)) (f i k : Nat) (x y : Int) (c : Nat) : Bool :=
  if decide (onI W i ((c : Int) + 1) < 0) != decide (onI W k ((c : Int) + 1) < 0) then false
    else if 0 ≤ onI W i ((c : Int) + 1) then alkW U W vs f (onI W i ((c : Int) + 1)).toNat (onI W k ((c : Int) + 1)).toNat x y else true

set_option maxHeartbeats 8000000 in
set_option maxRecDepth 20000 in
theorem wAlike_c (U : TF) (hUf : FOk U) (hU : ∀ a ∈ U.arcs, (0 ≤ a.f ∧ a.f < U.st) ∧ (0 ≤ a.t ∧ a.t < U.st) ∧ 0 ≤ a.w ∧ a.w ≤ 1000000000) (W vs : List (List Int)) (rows : List Sli) (m : List (Addr × List Int × Nat)) (par sym : List Int) (rc pc sc : Nat) (hw : WSt U W vs par sym W.length 1) (hl : W.length ≤ 201) (htab : Tab2 m rows vs.length (fun j => vs.getD j []))
    (hend : ∀ j, j < W.length → -1 ≤ endW U vs j ∧ endW U vs j ≤ 1000000000000000) (x y : Int) (hx : -1000000000000000 ≤ x ∧ x ≤ 1000000000000000) (hy : -1000000000000000 ≤ y ∧ y ≤ 1000000000000000) : ∀ (f i k : Nat), i < W.length → k < W.length → W.length ≤ i + f →
    Ct Tryd.prog 49 [wV U rows par sym rc pc sc, .i i, wV U rows par sym rc pc sc, .i k, .i x, .i y] [] (hpWd U rows m par sym) 6 (fun v s => v = .b (alkW U W vs f i k x y) ∧ s = ⟨[], [(3, .pool 3 .int m)], 6⟩) := by
  intro f
  induction f with
  | zero => intro i k hi hk h; omega
  | succ f ih =>
    intro i k hi hk hf
    have he1 := hend i hi
    have he2 := hend k hk
    have c1 := wEnd_c U hUf hU W vs rows m par sym rc pc sc hw hl htab i hi
    have c2 := wEnd_c U hUf hU W vs rows m par sym rc pc sc hw hl htab k hk
    have hdef : alkW U W vs (f + 1) i k x y = (alE (endW U vs i) (endW U vs k) x y && (List.range 9).all (alkS U W vs f i k x y)) := rfl
    generalize endW U vs i = p at *
    generalize endW U vs k = q at *
    refine ctC Tryd.tyOk Tryd.func49 rfl (by simp) (by simp) (fr := [(0, wV U rows par sym rc pc sc), (1, .i i), (2, wV U rows par sym rc pc sc), (3, .i k), (4, .i x), (5, .i y)]) rfl ?_
    refine SemC.cut Tryd.tyOk 18 [] (fun _ : Unit => ⟨[(1, .i i), (3, .i k), (4, .i x), (5, .i y), (6, .c (.ptr 6 0)), (8, .c (.ptr 7 0))], hpWd U rows m par sym ++ [(6, .box 36 (cWo U 0 1 2 4 5 rows.length rc par.length pc sym.length sc)), (7, .box 36 (cWo U 0 1 2 4 5 rows.length rc par.length pc sym.length sc))], 8⟩) (fun _ => alE p q x y = true) 3 _ _ ?_ ?_
    · repeat' (first | exact rfl | ((conv => whnf); first | (refine qX (fun h => ?_) fun h => ?_ <;> try exact absurd h (by omega)) | refine oN ?_ | refine oM ?_ ?_ | refine bM ?_ ?_ | refine dR ?_))
      (conv => whnf)
      refine cF (c1) [0, 1, 2, 3, 4, 5] Tryd.call50 ?_
      rintro _ _ ⟨rfl, rfl⟩
      simp only [Nat.reduceAdd, Nat.reduceSub]
      repeat' (first | exact rfl | ((conv => whnf); first | (refine qX (fun h => ?_) fun h => ?_ <;> try exact absurd h (by omega)) | refine oN ?_ | refine oM ?_ ?_ | refine bM ?_ ?_ | refine dR ?_))
      (conv => whnf)
      refine cF (c2) [0, 1, 2, 3, 4, 5] Tryd.call50 ?_
      rintro _ _ ⟨rfl, rfl⟩
      simp only [Nat.reduceAdd, Nat.reduceSub]
      repeat' (first | exact rfl | ((conv => whnf); first | (refine qX (fun h => ?_) fun h => ?_ <;> try exact absurd h (by omega)) | refine oN ?_ | refine oM ?_ ?_ | refine bM ?_ ?_ | refine dR ?_))
      · have he : alE p q x y = false := by unfold alE; simp_all
        rw [he, Bool.false_and] at hdef
        (conv => whnf)
        refine ⟨[], [(3, .pool 3 .int m)], 6, .b (alkW U W vs (f + 1) i k x y), ⟨by rfl, trivial, by simp⟩, by simp [hdef], rfl, rfl⟩
      · have he : alE p q x y = false := by unfold alE; simp_all
        rw [he, Bool.false_and] at hdef
        (conv => whnf)
        refine ⟨[], [(3, .pool 3 .int m)], 6, .b (alkW U W vs (f + 1) i k x y), ⟨by rfl, trivial, by simp⟩, by simp [hdef], rfl, rfl⟩
      all_goals
        have he : alE p q x y = true := by unfold alE; simp_all
        (conv => whnf)
        refine ⟨(), [], ⟨by rfl, ?_, ?_⟩, he⟩
        · simp
        · simp
    rintro _ he
    rw [he, Bool.true_and] at hdef
    refine SemC.of Tryd.tyOk 18 [] ?_
    repeat' (first | exact rfl | ((conv => whnf); first | (refine qX (fun h => ?_) fun h => ?_ <;> try exact absurd h (by omega)) | refine oN ?_ | refine oM ?_ ?_ | refine bM ?_ ?_ | refine dR ?_))
    (conv => whnf)
    refine loopI (fun c : Nat => ⟨[(1, .i i), (3, .i k), (4, .i x), (5, .i y), (6, .c (.ptr 6 0)), (8, .c (.ptr 7 0)), (15, .i ((c : Int) + 1))], hpWd U rows m par sym ++ [(6, .box 36 (cWo U 0 1 2 4 5 rows.length rc par.length pc sym.length sc)), (7, .box 36 (cWo U 0 1 2 4 5 rows.length rc par.length pc sym.length sc))], 8⟩)
      (fun c => c ≤ 9 ∧ ∀ d, d < c → alkS U W vs f i k x y d = true) (fun c => 9 - c) 0 [] ⟨by rfl, ?_, ?_⟩ ⟨Nat.zero_le _, fun d h => absurd h (Nat.not_lt_zero _)⟩ ?_
    · simp
    · simp
    · rintro c ⟨hc, hall⟩
      have hor1 := hw.onI_rng (c := (c : Int) + 1) hi
      have hor2 := hw.onI_rng (c := (c : Int) + 1) hk
      have d1 := wOn_c U W vs rows m par sym rc pc sc hw hl i hi ((c : Int) + 1)
      have d2 := wOn_c U W vs rows m par sym rc pc sc hw hl k hk ((c : Int) + 1)
      have hsd : alkS U W vs f i k x y c = if decide (onI W i ((c : Int) + 1) < 0) != decide (onI W k ((c : Int) + 1) < 0) then false else if 0 ≤ onI W i ((c : Int) + 1) then alkW U W vs f (onI W i ((c : Int) + 1)).toNat (onI W k ((c : Int) + 1)).toNat x y else true := rfl
      generalize onI W i ((c : Int) + 1) = o1 at *
      generalize onI W k ((c : Int) + 1) = o2 at *
      (conv => whnf)
      refine condP_dec (fun hc2 => ?_) (fun hc2 => ?_)
      · have hbad : alkS U W vs f i k x y c = false → alkW U W vs (f + 1) i k x y = false := fun h => by
          rw [hdef, List.all_eq_false]
          exact ⟨c, List.mem_range.2 (by omega), by rw [h]; simp⟩
        have hok : alkS U W vs f i k x y c = true → ∀ d, d < c + 1 → alkS U W vs f i k x y d = true := fun h d hd => by
          by_cases e : d = c
          · rw [e]; exact h
          · exact hall d (by omega)
        repeat' (first | exact rfl | ((conv => whnf); first | (refine qX (fun h => ?_) fun h => ?_ <;> try exact absurd h (by omega)) | refine oN ?_ | refine oM ?_ ?_ | refine bM ?_ ?_ | refine dR ?_))
        (conv => whnf)
        refine cF (d1) [0, 1, 2, 3, 4, 5] Tryd.call51 ?_
        rintro _ _ ⟨rfl, rfl⟩
        simp only [Nat.reduceAdd, Nat.reduceSub]
        repeat' (first | exact rfl | ((conv => whnf); first | (refine qX (fun h => ?_) fun h => ?_ <;> try exact absurd h (by omega)) | refine oN ?_ | refine oM ?_ ?_ | refine bM ?_ ?_ | refine dR ?_))
        (conv => whnf)
        refine cF (d2) [0, 1, 2, 3, 4, 5] Tryd.call51 ?_
        rintro _ _ ⟨rfl, rfl⟩
        simp only [Nat.reduceAdd, Nat.reduceSub]
        repeat' (first | exact rfl | ((conv => whnf); first | (refine qX (fun h => ?_) fun h => ?_ <;> try exact absurd h (by omega)) | refine oN ?_ | refine oM ?_ ?_ | refine bM ?_ ?_ | refine dR ?_))
        · rw [if_pos (by simp_all)] at hsd
          have hx := hbad hsd
          (conv => whnf)
          refine ⟨[], [(3, .pool 3 .int m)], 6, .b (alkW U W vs (f + 1) i k x y), ⟨by rfl, trivial, by simp⟩, by simp [hx], rfl, rfl⟩
        · rename_i g
          have g2 : 0 ≤ o2 := Int.not_lt.1 fun c => by
            rw [decide_eq_true c, decide_eq_true_eq] at g
            omega
          rw [if_neg (by rw [g]; simp), if_pos h] at hsd
          obtain ⟨j1, rfl⟩ := Int.eq_ofNat_of_zero_le h
          obtain ⟨j2, rfl⟩ := Int.eq_ofNat_of_zero_le g2
          rw [Int.toNat_natCast, Int.toNat_natCast] at hsd
          (conv => whnf)
          refine cF (ih j1 j2 (by omega) (by omega) (by omega)) [0, 1, 2, 3, 4, 5] Tryd.call49 ?_
          rintro _ _ ⟨rfl, rfl⟩
          simp only [Nat.reduceAdd, Nat.reduceSub]
          generalize alkW U W vs f j1 j2 x y = r at *
          cases r with
          | true =>
            have hx := hok hsd
            repeat' (first | exact rfl | ((conv => whnf); first | (refine qX (fun h => ?_) fun h => ?_ <;> try exact absurd h (by omega)) | refine oN ?_ | refine oM ?_ ?_ | refine bM ?_ ?_ | refine dR ?_))
            (conv => whnf)
            refine ⟨c + 1, [], ⟨by rfl, ?_, ?_⟩, ⟨by omega, hx⟩, by omega⟩
            · simp
            · simp
          | false =>
            have hx := hbad hsd
            repeat' (first | exact rfl | ((conv => whnf); first | (refine qX (fun h => ?_) fun h => ?_ <;> try exact absurd h (by omega)) | refine oN ?_ | refine oM ?_ ?_ | refine bM ?_ ?_ | refine dR ?_))
            (conv => whnf)
            refine ⟨[], [(3, .pool 3 .int m)], 6, .b (alkW U W vs (f + 1) i k x y), ⟨by rfl, trivial, by simp⟩, by simp [hx], rfl, rfl⟩
        · rename_i g
          rw [if_neg (by rw [g]; simp), if_neg h] at hsd
          have hx := hok hsd
          (conv => whnf)
          refine ⟨c + 1, [], ⟨by rfl, ?_, ?_⟩, ⟨by omega, hx⟩, by omega⟩
          · simp
          · simp
      · have e : c = 9 := by omega
        subst e
        have he2 : alkW U W vs (f + 1) i k x y = true := by
          rw [hdef, List.all_eq_true]
          exact fun d hd => hall d (List.mem_range.1 hd)
        repeat' (first | exact rfl | ((conv => whnf); first | (refine qX (fun h => ?_) fun h => ?_ <;> try exact absurd h (by omega)) | refine oN ?_ | refine oM ?_ ?_ | refine bM ?_ ?_ | refine dR ?_))
        (conv => whnf)
        refine ⟨[], [(3, .pool 3 .int m)], 6, .b (alkW U W vs (f + 1) i k x y), ⟨by rfl, trivial, by simp⟩, by simp [he2], rfl, rfl⟩
end Go.Fw

namespace Go.Fw
open Go Go.Proofs

/-- Alike, each but for its best. -/
def lsA (U : TF) (W vs : List (List Int)) (j i : Nat) : Bool := alkW U W vs W.length j i (bstW U W vs W.length j) (bstW U W vs W.length i)
/-- Beginnings that speak for a state each; one more. -/
def lsN (U : TF) (W vs : List (List Int)) (first : List Nat) (i : Nat) : Nat := first.findIdx fun j => lsA U W vs j i
def lsF (U : TF) (W vs : List (List Int)) (first : List Nat) (i : Nat) : List Nat := if lsN U W vs first i < first.length then first else first ++ [i]

theorem lsN_at {U : TF} {W vs : List (List Int)} {first : List Nat} {i k : Nat} (hk : k < first.length) (hno : ∀ j, j < k → lsA U W vs (first.getD j 0) i = false) (h : lsA U W vs (first.getD k 0) i = true) : lsN U W vs first i = k := by
  unfold lsN
  rw [List.findIdx_eq hk]
  refine ⟨by simpa [List.getD, hk] using h, fun j hj => ?_⟩
  have := hno j hj
  simpa [List.getD, show j < first.length by omega] using this
theorem lsN_no {U : TF} {W vs : List (List Int)} {first : List Nat} {i : Nat} (hno : ∀ j, j < first.length → lsA U W vs (first.getD j 0) i = false) : lsN U W vs first i = first.length := by
  unfold lsN
  rw [List.findIdx_eq_length]
  intro x hx
  obtain ⟨j, hj, rfl⟩ := List.mem_iff_getElem.1 hx
  simpa [List.getD, hj] using hno j hj

abbrev hpSt (U : TF) (W vs : List (List Int)) (rows : List Sli) (m : List (Addr × List Int × Nat)) (par sym : List Int) (rc pc sc : Nat) (first : List Nat) (fi bi sf sb : Nat) : List (Nat × SO) :=
  [(6, .box 36 (cWo U 0 1 2 4 5 rows.length rc par.length pc sym.length sc)), (7, .box 22 [.sl fi 1 0 first.length (first.length + sf)]), (8, .box 22 [.sl bi 1 0 first.length (first.length + sb)]), (fi, .arr true 3 .int (first.map fun j : Nat => (j : Int)) sf), (bi, .arr true 3 .int (first.map fun j => bstW U W vs W.length j) sb), (3, .pool 3 .int m)]
abbrev hpSr (U : TF) (rows : List Sli) (par sym : List Int) : List (Nat × SO) := [(0, .arr false 3 .int U.fin 0), (1, .arr false 50 .arc U.arcs 0), (2, .arr false 22 .sli rows 0), (4, .arr false 3 .int par 0), (5, .arr false 3 .int sym 0)]

set_option maxHeartbeats 8000000 in
set_option maxRecDepth 20000 in
theorem wState_c (U : TF) (hUf : FOk U) (hU : ∀ a ∈ U.arcs, (0 ≤ a.f ∧ a.f < U.st) ∧ (0 ≤ a.t ∧ a.t < U.st) ∧ 0 ≤ a.w ∧ a.w ≤ 1000000000) (W vs : List (List Int)) (rows : List Sli) (m : List (Addr × List Int × Nat)) (par sym : List Int) (rc pc sc : Nat) (hw : WSt U W vs par sym W.length 1) (hl : W.length ≤ 201) (htab : Tab2 m rows vs.length (fun j => vs.getD j []))
    (hend : ∀ j, j < W.length → -1 ≤ endW U vs j ∧ endW U vs j ≤ 1000000000000000) (hbst : ∀ j, j < W.length → -1 ≤ bstW U W vs W.length j ∧ bstW U W vs W.length j ≤ 1000000000000000) (first : List Nat) (hf : ∀ j ∈ first, j < W.length) (hfl : first.length ≤ 1000) (sf sb i : Nat) (hi : i < W.length) :
    Ct Tryd.prog 48 [.i i, .c (.ptr 6 0), .c (.ptr 7 0), .c (.ptr 8 0)] [] (hpSr U rows par sym ++ hpSt U W vs rows m par sym rc pc sc first 9 10 sf sb) 11
      (fun v s => ∃ sf' sb', v = .i (lsN U W vs first i : Nat) ∧ s = ⟨[], hpSt U W vs rows m par sym rc pc sc (lsF U W vs first i) 11 12 sf' sb', 13⟩) := by
  have hbi := hbst i hi
  have cb := wBest_c U hUf hU W vs rows m par sym rc pc sc hw hl htab W.length i hi (by omega)
  refine ctW Tryd.tyOk 8 [] Tryd.func48 rfl (by simp) (by simp) (fr := [(0, .i i), (1, .c (.ptr 6 0)), (2, .c (.ptr 7 0)), (3, .c (.ptr 8 0))]) rfl ?_
  repeat' (first | exact rfl | ((conv => whnf); first | (refine qX (fun h => ?_) fun h => ?_ <;> try exact absurd h (by omega)) | refine oN ?_ | refine oM ?_ ?_ | refine bM ?_ ?_ | refine dR ?_))
  (conv => whnf)
  refine cF (cb) [0, 1, 2, 3, 4, 5] Tryd.call47 ?_
  rintro _ _ ⟨rfl, rfl⟩
  simp only [Nat.reduceAdd, Nat.reduceSub]
  repeat' (first | exact rfl | ((conv => whnf); first | (refine qX (fun h => ?_) fun h => ?_ <;> try exact absurd h (by omega)) | refine oN ?_ | refine oM ?_ ?_ | refine bM ?_ ?_ | refine dR ?_))
  (conv => whnf)
  refine loopI (fun k : Nat => ⟨[(0, .i i), (1, .c (.ptr 6 0)), (2, .c (.ptr 7 0)), (3, .c (.ptr 8 0)), (6, .i (bstW U W vs W.length i)), (7, .i k)], hpSr U rows par sym ++ hpSt U W vs rows m par sym rc pc sc first 9 10 sf sb, 11⟩)
    (fun k => k ≤ first.length ∧ ∀ j, j < k → lsA U W vs (first.getD j 0) i = false) (fun k => first.length - k) 0 [] ⟨by rfl, ?_, ?_⟩ ⟨Nat.zero_le _, fun j h => absurd h (Nat.not_lt_zero _)⟩ ?_
  · simp
  · simp
  · rintro k ⟨hk, hno⟩
    (conv => whnf)
    refine condP_dec (fun hk2 => ?_) (fun hk2 => ?_)
    · have hk3 : k < first.length := by omega
      have hj := hf _ (getD_mem first k 0 hk3)
      have e0 : 0 + (k : Int).toNat = k := by omega
      have ef : (first.map fun j : Nat => (j : Int)).getD (0 + (k : Int).toNat) EK.int.dflt = (first.getD k 0 : Nat) := by rw [e0]; simp [List.getD, hk3]
      have eb : (first.map fun j => bstW U W vs W.length j).getD (0 + (k : Int).toNat) EK.int.dflt = bstW U W vs W.length (first.getD k 0) := by rw [e0]; simp [List.getD, hk3]
      have hlm1 : (first.map fun j : Nat => (j : Int)).length = first.length := List.length_map _
      have hlm2 : (first.map fun j => bstW U W vs W.length j).length = first.length := List.length_map _
      have ca := wAlike_c U hUf hU W vs rows m par sym rc pc sc hw hl htab hend (bstW U W vs W.length (first.getD k 0)) (bstW U W vs W.length i) (by have := hbst _ hj; omega) (by omega) W.length (first.getD k 0) i hj hi (by omega)
      have hla : lsA U W vs (first.getD k 0) i = alkW U W vs W.length (first.getD k 0) i (bstW U W vs W.length (first.getD k 0)) (bstW U W vs W.length i) := rfl
      generalize alkW U W vs W.length (first.getD k 0) i (bstW U W vs W.length (first.getD k 0)) (bstW U W vs W.length i) = r at *
      repeat' (first | exact rfl | ((conv => whnf); first | (refine qX (fun h => ?_) fun h => ?_ <;> try exact absurd h (by omega)) | refine oN ?_ | refine oM ?_ ?_ | refine bM ?_ ?_ | refine dR ?_))
      (conv => whnf)
      rw [ef, eb]
      refine cF (ca) [0, 1, 2, 3, 4, 5] Tryd.call49 ?_
      rintro _ _ ⟨rfl, rfl⟩
      simp only [Nat.reduceAdd, Nat.reduceSub]
      cases r with
      | true =>
        have hn := lsN_at hk3 hno hla
        have hF : lsF U W vs first i = first := by unfold lsF; rw [hn, if_pos hk3]
        repeat' (first | exact rfl | ((conv => whnf); first | (refine qX (fun h => ?_) fun h => ?_ <;> try exact absurd h (by omega)) | refine oN ?_ | refine oM ?_ ?_ | refine bM ?_ ?_ | refine dR ?_))
        (conv => whnf)
        refine ⟨[(11, some 9), (12, some 10)], hpSt U W vs rows m par sym rc pc sc first 11 12 sf sb, 13, .i (lsN U W vs first i : Nat), ⟨by rfl, trivial, by simp⟩, by simp [hn], sf, sb, rfl, by rw [hF]⟩
      | false =>
        repeat' (first | exact rfl | ((conv => whnf); first | (refine qX (fun h => ?_) fun h => ?_ <;> try exact absurd h (by omega)) | refine oN ?_ | refine oM ?_ ?_ | refine bM ?_ ?_ | refine dR ?_))
        (conv => whnf)
        refine ⟨k + 1, [], ⟨by rfl, ?_, ?_⟩, ⟨by omega, fun j hj => ?_⟩, by omega⟩
        · simp
        · simp
        · by_cases e : j = k
          · rw [e]; exact hla
          · exact hno j (by omega)
    · have e : k = first.length := by omega
      subst e
      have hn := lsN_no hno
      have hF : lsF U W vs first i = first ++ [i] := by unfold lsF; rw [hn, if_neg (by omega)]
      have hlm1 : (first.map fun j : Nat => (j : Int)).length = first.length := List.length_map _
      have hlm2 : (first.map fun j => bstW U W vs W.length j).length = first.length := List.length_map _
      have hv : ((first.length + 1 : Nat) : Int) - 1 = (lsN U W vs first i : Nat) := by rw [hn]; omega
      have ht1 : (first.map fun j : Nat => (j : Int)).take first.length = first.map fun j : Nat => (j : Int) := List.take_of_length_le (by omega)
      have ht2 : (first.map fun j => bstW U W vs W.length j).take first.length = first.map fun j => bstW U W vs W.length j := List.take_of_length_le (by omega)
      repeat' (first | exact rfl | ((conv => whnf); first | (refine qX (fun h => ?_) fun h => ?_ <;> try exact absurd h (by omega)) | refine oN ?_ | refine oM ?_ ?_ | refine bM ?_ ?_ | refine dR ?_ | intro _))
      all_goals
        (conv => whnf)
        rw [hv]
        rename_i sp1 sp2
        first
        | (refine ⟨[(11, some 12), (12, some 14)], hpSt U W vs rows m par sym rc pc sc (lsF U W vs first i) 11 12 sp1 sp2, 13, .i (lsN U W vs first i : Nat), ⟨by rfl, trivial, ?_⟩, ?_, sp1, sp2, rfl, rfl⟩; (focus (rw [hF]; simp [lOp.appL, sub, ht1, ht2]; done)); (focus (simp; done)))
        | (refine ⟨[(11, some 13), (12, some 14)], hpSt U W vs rows m par sym rc pc sc (lsF U W vs first i) 11 12 sp1 sp2, 13, .i (lsN U W vs first i : Nat), ⟨by rfl, trivial, ?_⟩, ?_, sp1, sp2, rfl, rfl⟩; (focus (rw [hF]; simp [lOp.appL, sub, ht1, ht2]; done)); (focus (simp; done)))
end Go.Fw

/-
  What goes on from a beginning: the best of it, and which go on alike.
-/
namespace Go.Fw

section
variable {F U : TF} {st : DS} (h : DetH F U st) {W vs : List (List Int)} {par sym : List Int} (hw : WSt U W vs par sym W.length 1)
include h hw

theorem q_some {j : Nat} (hj : j < W.length) : ∃ (q : Nat) (d : Int), q < st.1.length ∧ RdW st.2 0 (W.getD j []) q d :=
  h.ri.reads h.hU (fun a ha => (h.hlet a ha).1) (hw.bg j hj)

theorem on_yes {j : Nat} (hj : j < W.length) {q d x : Int} (hq : RdW st.2 0 (W.getD j []) q d) (ho : 0 ≤ onI W j x) :
    ∃ a ∈ st.2, a.f = q ∧ a.i = x ∧ a.o = x ∧ (j < (onI W j x).toNat ∧ (onI W j x).toNat < W.length) ∧ W.getD (onI W j x).toNat [] = W.getD j [] ++ [x] ∧ RdW st.2 0 (W.getD (onI W j x).toNat []) a.t (d + a.w) := by
  by_cases hm : W.getD j [] ++ [x] ∈ W
  · obtain ⟨k, hk, e⟩ := getD_mem2.1 hm
    have ho2 := hw.onI_yes hk e
    have hgt := hw.gt hj hk e
    rw [ho2, Int.toNat_natCast]
    obtain ⟨q', d', hq', hr⟩ := q_some h hw hk
    rw [e] at hr ⊢
    obtain ⟨a, ha, d1, h1, h2, h3, h4⟩ := hr.unsnoc
    obtain ⟨e1, e2⟩ := RdW.det (h.detD 0 0) h1 hq
    have ho3 := (h.rngD 0 0 a ha).2.2.2
    refine ⟨a, ha, e1, h2, by omega, ⟨hgt, hk⟩, rfl, ?_⟩
    rw [h3, ← e2, ← h4]
    exact hr
  · exfalso
    unfold onI at ho
    rw [if_neg hm] at ho
    omega

theorem on_no {j : Nat} (hj : j < W.length) {q d x : Int} (hq : RdW st.2 0 (W.getD j []) q d) {a : Arc} (ha : a ∈ st.2) (e1 : a.f = q) (e2 : a.i = x) : 0 ≤ onI W j x := by
  have hr := hq.snoc ha e1
  rw [e2] at hr
  have hs := h.ri.sub h.hU hr
  obtain ⟨h1, h2, h3⟩ := h.small
  have hra := (h.rngD 0 0 a ha).2.1
  have hrt : a.t < ((st.1.length : Nat) : Int) := hra.2
  have hne := h1.ne _ (getD_mem st.1 a.t.toNat [] (by omega))
  obtain ⟨e, he⟩ := List.exists_mem_of_ne_nil _ hne
  have hp := (hs.min e he).is (by have := hs.r0; have := hs.b0 e he; omega)
  obtain ⟨k, hk, e3⟩ := hw.full (fun a ha => (h.hlet a ha).1) _ ⟨_, _, hp⟩
  rw [hw.onI_yes hk e3]
  omega

theorem end_is {j : Nat} (hj : j < W.length) {q : Nat} {d : Int} (hq : q < st.1.length) (hr : RdW st.2 0 (W.getD j []) q d) : endW U vs j = if (mkD U st 0 0).fin.getD q 0 = -1 then -1 else d + (mkD U st 0 0).fin.getD q 0 := by
  rw [h.ri.endW h.hU h.hfin h.uok.2.1 hw hj hr, Int.toNat_natCast]
  show _ = if (st.1.map (finD U)).getD q 0 = -1 then -1 else d + (st.1.map (finD U)).getD q 0
  rw [mkD_fin hq]

theorem bstP_min {f i : Nat} (hi : i < W.length) (ih : ∀ j, i < j → j < W.length → MinOf (fun c => ∃ v, CW U U.start (W.getD j [] ++ v) c) (bstW U W vs f j)) : ∀ k : Nat, k ≤ 9 →
    MinOf (fun c => CW U U.start (W.getD i []) c ∨ ∃ (x : Int) (v : List Int), (1 ≤ x ∧ x ≤ (k : Int)) ∧ CW U U.start (W.getD i [] ++ x :: v) c) (bstP U W vs f i k)
  | 0, _ => by
    have he : MinOf (CW U U.start (W.getD i [])) (endW U vs i) := endW_min (fun a ha => (h.hU a ha).2.1) h.uok.2.1 h.hfin hw hi
    refine MinOf.cong (show MinOf (CW U U.start (W.getD i [])) (bstP U W vs f i 0) from he) fun c => ?_
    constructor
    · exact fun h => .inl h
    · rintro (h | ⟨x, v, h1, _⟩)
      · exact h
      · omega
  | k + 1, hk => by
    have hP := bstP_min hi ih k (by omega)
    obtain ⟨q, d, hq, hr⟩ := q_some h hw hi
    rw [bstP_succ]
    by_cases ho : 0 ≤ onI W i ((k : Int) + 1)
    · obtain ⟨a, ha, g1, g2, g3, g4, g5, g6⟩ := on_yes h hw hi hr ho
      rw [if_pos ho]
      refine (MinOf.or hP (ih _ g4.1 g4.2)).cong fun c => ?_
      rw [g5]
      constructor
      · rintro ((h1 | ⟨x, v, h1, h2⟩) | ⟨v, h1⟩)
        · exact .inl h1
        · exact .inr ⟨x, v, by omega, h2⟩
        · exact .inr ⟨(k : Int) + 1, v, by omega, by rwa [List.append_assoc] at h1⟩
      · rintro (h1 | ⟨x, v, h1, h2⟩)
        · exact .inl (.inl h1)
        · by_cases e : x = (k : Int) + 1
          · subst e
            exact .inr ⟨v, by rw [List.append_assoc]; exact h2⟩
          · exact .inl (.inr ⟨x, v, by omega, h2⟩)
    · rw [if_neg ho]
      refine hP.cong fun c => ?_
      constructor
      · rintro (h1 | ⟨x, v, h1, h2⟩)
        · exact .inl h1
        · exact .inr ⟨x, v, by omega, h2⟩
      · rintro (h1 | ⟨x, v, h1, h2⟩)
        · exact .inl h1
        · by_cases e : x = (k : Int) + 1
          · exfalso
            subst e
            obtain ⟨t, d', h3, _, _⟩ := h2
            obtain ⟨q', d2, e2, h4, h5, _⟩ := (show RdW U.arcs U.start ((W.getD i [] ++ [(k : Int) + 1]) ++ v) t d' by rw [List.append_assoc]; exact h3).split
            obtain ⟨m, hm, e3⟩ := hw.full (fun a ha => (h.hlet a ha).1) _ ⟨_, _, h4⟩
            rw [hw.onI_yes hm e3] at ho
            omega
          · exact .inr ⟨x, v, by omega, h2⟩

theorem bst_min : ∀ (f i : Nat), i < W.length → W.length ≤ i + f → MinOf (fun c => ∃ v, CW U U.start (W.getD i [] ++ v) c) (bstW U W vs f i)
  | 0, i, hi, hf => by omega
  | f + 1, i, hi, hf => by
    have hP := bstP_min h hw hi (f := f) (fun j h1 h2 => bst_min f j h2 (by omega)) 9 (Nat.le_refl _)
    refine MinOf.cong (show MinOf _ (bstW U W vs (f + 1) i) from hP) fun c => ?_
    constructor
    · rintro (h1 | ⟨x, v, _, h2⟩)
      · exact ⟨[], by rw [List.append_nil]; exact h1⟩
      · exact ⟨x :: v, h2⟩
    · rintro ⟨v, hv⟩
      cases v with
      | nil => exact .inl (by rw [List.append_nil] at hv; exact hv)
      | cons x v =>
        obtain ⟨t, d, h1, h2, h3⟩ := hv
        have := h1.lets (fun a ha => (h.hlet a ha).1) x (by simp)
        exact .inr ⟨x, v, by omega, t, d, h1, h2, h3⟩
end

section
/-- Do two beginnings of two go on alike? -/
def alkW2 (U : TF) (W vs : List (List Int)) (V : TF) (Y ys : List (List Int)) : Nat → Nat → Nat → Int → Int → Bool
  | 0, _, _, _, _ => true
  | f + 1, i, k, x, y => alE (endW U vs i) (endW V ys k) x y && (List.range 9).all fun (c : Nat) =>
    if decide (onI W i ((c : Int) + 1) < 0) != decide (onI Y k ((c : Int) + 1) < 0) then false
    else if 0 ≤ onI W i ((c : Int) + 1) then alkW2 U W vs V Y ys f (onI W i ((c : Int) + 1)).toNat (onI Y k ((c : Int) + 1)).toNat x y else true
def alkS2 (U : TF) (W vs : List (List Int)) (V : TF) (Y ys : List (List Int)) (f i k : Nat) (x y : Int) (c : Nat) : Bool :=
  if decide (onI W i ((c : Int) + 1) < 0) != decide (onI Y k ((c : Int) + 1) < 0) then false
    else if 0 ≤ onI W i ((c : Int) + 1) then alkW2 U W vs V Y ys f (onI W i ((c : Int) + 1)).toNat (onI Y k ((c : Int) + 1)).toNat x y else true
theorem alkW_eq {U : TF} {W vs : List (List Int)} : ∀ (f i k : Nat) (x y : Int), alkW U W vs f i k x y = alkW2 U W vs U W vs f i k x y
  | 0, _, _, _, _ => rfl
  | f + 1, i, k, x, y => by
    unfold alkW alkW2
    simp only [alkW_eq f]

theorem IsUs.nil {F U : TF} (h : IsUs F U) (hF : FRng F) (hs : 0 ≤ F.start ∧ F.start < F.st) (hL : ∀ a ∈ F.arcs, a.i = a.o ∧ a.i ≠ 0) (hn : ¬ ∃ w c, CW U U.start w c) : U.arcs = [] := by
  have hLU : ∀ a ∈ U.arcs, a.i = a.o ∧ a.i ≠ 0 := fun a ha => by
    obtain ⟨b, hb, e1, e2, _⟩ := h.arcs ha
    rw [e1, e2]; exact hL b hb
  obtain ⟨p, hp, h1, h2, h3, h4⟩ := h
  by_cases hps : p F.start.toNat = true
  · exfalso
    have e1 : (kT F p).arcs = karc p F.arcs F.arcs.length := by unfold kT; rw [if_pos hps]
    have e2 : (kT F p).start = (rkB p F.start.toNat : Nat) := by unfold kT; rw [if_pos hps]
    have e3 : (kT F p).fin = kfin p F.fin F.st.toNat := by unfold kT; rw [if_pos hps]
    rw [e1] at h4
    rw [e2] at h2
    rw [e3] at h3
    obtain ⟨r1, e, r2, r3, r4⟩ := (hp.iff F.start.toNat (by omega)).1 hps
    obtain ⟨w, c, t, d, hr, hf, _⟩ := rch_cw (e := (e : Int)) (by rw [Int.toNat_natCast]; exact r3) r4
    obtain ⟨i1, i2, i3, i4, i5, i6⟩ := keep_way hF hp (rd_way hL hr) ⟨by omega, by omega⟩ r1 hf
    rw [h4] at hLU
    have hw := (way_rd hLU i6).2
    rw [Int.toNat_natCast, ← h2] at hw
    refine hn ⟨w, d + U.fin.getD (rkB p t.toNat) 0, (rkB p t.toNat : Nat), d, by rw [h4]; exact hw, ?_, by rw [Int.toNat_natCast]⟩
    rw [Int.toNat_natCast, h3, kfin_get F.fin (by omega) i3]
    exact hf
  · rw [h4]
    unfold kT
    rw [if_neg hps]

theorem DetH.fl {F U : TF} {st : DS} (h : DetH F U st) (h12 : F.st ≤ 12) (q : Nat) : -1 ≤ (mkD U st 0 0).fin.getD q 0 := by
  by_cases hj : q < (mkD U st 0 0).fin.length
  · exact ((h.fokB h12 0 0).1.fin _ (getD_mem _ q 0 hj)).1
  · simp only [List.getD, List.getElem?_eq_none (show (mkD U st 0 0).fin.length ≤ q by omega), Option.getD_none]; omega

/-- Where an arc leads to, some word goes on. -/
theorem DetH.coA {F U : TF} {st : DS} (h : DetH F U st) {a : Arc} (ha : a ∈ st.2) : ∃ v c, CW (mkD U st 0 0) a.t v c := by
  have hr := (h.rngD 0 0 a ha).2.1
  have hr : 0 ≤ a.t ∧ a.t < ((st.1.length : Nat) : Int) := hr
  by_cases hn : ∃ w c, CW U U.start w c
  · have := h.co hn 0 0 (j := a.t.toNat) (by omega)
    rwa [show ((a.t.toNat : Nat) : Int) = a.t by omega] at this
  · exfalso
    have he := h.us.nil h.wok.toFRng h.fok.start h.lets hn
    obtain ⟨j, x, q1, q2, q3, q4, q5, _⟩ := h.ri.arc ha
    obtain ⟨w, d, hw⟩ := h.ri.rch j q2
    have hs := h.ri.sub h.hU hw
    rw [Int.toNat_natCast] at hs
    obtain ⟨t, c, hb⟩ := hs.yes h.hU q3
    have := (hb.empty he).1
    simp at this

variable {F U G V : TF} {st st' : DS} (h : DetH F U st) (h12 : F.st ≤ 12) {W vs : List (List Int)} {par sym : List Int} (hw : WSt U W vs par sym W.length 1)
  (h' : DetH G V st') (h12' : G.st ≤ 12) {Y ys : List (List Int)} {par' sym' : List Int} (hw' : WSt V Y ys par' sym' Y.length 1)
include h h12 hw h' h12' hw'

theorem alk2_iff : ∀ (f i k : Nat) (x y : Int) (q r : Nat) (d e : Int), i < W.length → k < Y.length → W.length ≤ i + f → q < st.1.length → r < st'.1.length → RdW st.2 0 (W.getD i []) q d → RdW st'.2 0 (Y.getD k []) r e →
    (alkW2 U W vs V Y ys f i k x y = true ↔ ∀ v c, CW (mkD U st 0 0) q v (c + (x - d)) ↔ CW (mkD V st' 0 0) r v (c + (y - e)))
  | 0, i, k, x, y, q, r, d, e, hi, hk, hf, _, _, _, _ => by omega
  | f + 1, i, k, x, y, q, r, d, e, hi, hk, hf, hq, hr, hrq, hrr => by
    have hd0 := (h.ri.sub h.hU hrq).r0
    have he0 := (h'.ri.sub h'.hU hrr).r0
    have e1 := end_is h hw hi hq hrq
    have e2 := end_is h' hw' hk hr hrr
    have f1 := h.fl h12 q
    have f2 := h'.fl h12' r
    have hdef : alkW2 U W vs V Y ys (f + 1) i k x y = (alE (endW U vs i) (endW V ys k) x y && (List.range 9).all (alkS2 U W vs V Y ys f i k x y)) := rfl
    have hAE : alE (endW U vs i) (endW V ys k) x y = true ↔ ∀ c, CW (mkD U st 0 0) q [] (c + (x - d)) ↔ CW (mkD V st' 0 0) r [] (c + (y - e)) := by
      simp only [CW.nil, Int.toNat_natCast]
      rw [e1, e2]
      generalize (mkD U st 0 0).fin.getD q 0 = a at *
      generalize (mkD V st' 0 0).fin.getD r 0 = b at *
      unfold alE
      by_cases ha : a = -1
      · rw [if_pos ha]
        by_cases hb : b = -1
        · rw [if_pos hb]
          refine ⟨fun _ c => ⟨fun h => absurd ha h.1, fun h => absurd hb h.1⟩, fun _ => by simp⟩
        · rw [if_neg hb]
          constructor
          · intro hc
            exfalso
            rw [decide_eq_true (show (-1 : Int) < 0 by omega), decide_eq_false (show ¬ (e + b < 0) by omega)] at hc
            simp at hc
          · intro hc
            exact absurd ha ((hc (b - (y - e))).2 ⟨hb, by omega⟩).1
      · rw [if_neg ha]
        by_cases hb : b = -1
        · rw [if_pos hb]
          constructor
          · intro hc
            exfalso
            rw [decide_eq_true (show (-1 : Int) < 0 by omega), decide_eq_false (show ¬ (d + a < 0) by omega)] at hc
            simp at hc
          · intro hc
            exact absurd hb ((hc (a - (x - d))).1 ⟨ha, by omega⟩).1
        · rw [if_neg hb, decide_eq_false (show ¬ (d + a < 0) by omega), decide_eq_false (show ¬ (e + b < 0) by omega), decide_eq_true (show d + a ≥ 0 by omega)]
          simp only [bne_self_eq_false, Bool.false_or, Bool.true_and, Bool.not_eq_true', decide_eq_false_iff_not, Decidable.not_not]
          constructor
          · intro hc c
            exact ⟨fun g => ⟨hb, by omega⟩, fun g => ⟨ha, by omega⟩⟩
          · intro hc
            have := ((hc (a - (x - d))).1 ⟨ha, by omega⟩).2
            omega
    rw [hdef, Bool.and_eq_true, hAE, List.all_eq_true]
    have hrng : ∀ a ∈ st.2, 0 ≤ a.t ∧ a.t < ((st.1.length : Nat) : Int) := fun a ha => (h.rngD 0 0 a ha).2.1
    have hrng' : ∀ a ∈ st'.2, 0 ≤ a.t ∧ a.t < ((st'.1.length : Nat) : Int) := fun a ha => (h'.rngD 0 0 a ha).2.1
    constructor
    · rintro ⟨hnil, hall⟩ v c
      cases v with
      | nil => exact hnil c
      | cons z u =>
        have hS : ∀ z : Int, 1 ≤ z ∧ z ≤ 9 → alkS2 U W vs V Y ys f i k x y (z - 1).toNat = true := fun z hz => hall _ (List.mem_range.2 (by omega))
        have key : ∀ z : Int, 1 ≤ z ∧ z ≤ 9 → (0 ≤ onI W i z ∨ 0 ≤ onI Y k z) → 0 ≤ onI W i z ∧ 0 ≤ onI Y k z ∧ alkW2 U W vs V Y ys f (onI W i z).toNat (onI Y k z).toNat x y = true := fun z hz ho => by
          have g := hS z hz
          unfold alkS2 at g
          rw [show (((z - 1).toNat : Nat) : Int) + 1 = z by omega] at g
          by_cases o1 : 0 ≤ onI W i z
          · by_cases o2 : 0 ≤ onI Y k z
            · rw [decide_eq_false (show ¬ onI W i z < 0 by omega), decide_eq_false (show ¬ onI Y k z < 0 by omega), if_neg (by simp), if_pos o1] at g
              exact ⟨o1, o2, g⟩
            · rw [decide_eq_false (show ¬ onI W i z < 0 by omega), decide_eq_true (show onI Y k z < 0 by omega)] at g
              simp at g
          · have o2 : 0 ≤ onI Y k z := by omega
            rw [decide_eq_true (show onI W i z < 0 by omega), decide_eq_false (show ¬ onI Y k z < 0 by omega)] at g
            simp at g
        constructor
        · intro hc
          obtain ⟨a, ha, g1, g2, g3⟩ := CW.cons.1 hc
          have hz := (h.rngD 0 0 a ha).2.2.1
          rw [g2] at hz
          obtain ⟨o1, o2, o3⟩ := key z hz (.inl (on_no h hw hi hrq ha g1 g2))
          obtain ⟨a', ha', p1, p2, _, p4, _, p6⟩ := on_yes h hw hi hrq o1
          obtain ⟨b, hb, r1, r2, _, r4, _, r6⟩ := on_yes h' hw' hk hrr o2
          have := (h.detD 0 0).one a ha a' ha' (g1.trans p1.symm) (g2.trans p2.symm)
          subst this
          have ra := hrng a ha
          have rb := hrng' b hb
          have ea : ((a.t.toNat : Nat) : Int) = a.t := by omega
          have eb : ((b.t.toNat : Nat) : Int) = b.t := by omega
          have ih := (alk2_iff f _ _ x y a.t.toNat b.t.toNat (d + a.w) (e + b.w) p4.2 r4.2 (by omega) (by omega) (by omega) (by rw [ea]; exact p6) (by rw [eb]; exact r6)).1 o3 u c
          rw [ea, eb] at ih
          refine CW.cons.2 ⟨b, hb, r1, r2, ?_⟩
          rw [show c + (y - e) - b.w = c + (y - (e + b.w)) by omega]
          exact ih.1 (by rw [show c + (x - (d + a.w)) = c + (x - d) - a.w by omega]; exact g3)
        · intro hc
          obtain ⟨b, hb, g1, g2, g3⟩ := CW.cons.1 hc
          have hz := (h'.rngD 0 0 b hb).2.2.1
          rw [g2] at hz
          obtain ⟨o1, o2, o3⟩ := key z hz (.inr (on_no h' hw' hk hrr hb g1 g2))
          obtain ⟨a, ha, p1, p2, _, p4, _, p6⟩ := on_yes h hw hi hrq o1
          obtain ⟨b', hb', r1, r2, _, r4, _, r6⟩ := on_yes h' hw' hk hrr o2
          have := (h'.detD 0 0).one b hb b' hb' (g1.trans r1.symm) (g2.trans r2.symm)
          subst this
          have ra := hrng a ha
          have rb := hrng' b hb
          have ea : ((a.t.toNat : Nat) : Int) = a.t := by omega
          have eb : ((b.t.toNat : Nat) : Int) = b.t := by omega
          have ih := (alk2_iff f _ _ x y a.t.toNat b.t.toNat (d + a.w) (e + b.w) p4.2 r4.2 (by omega) (by omega) (by omega) (by rw [ea]; exact p6) (by rw [eb]; exact r6)).1 o3 u c
          rw [ea, eb] at ih
          refine CW.cons.2 ⟨a, ha, p1, p2, ?_⟩
          rw [show c + (x - d) - a.w = c + (x - (d + a.w)) by omega]
          exact ih.2 (by rw [show c + (y - (e + b.w)) = c + (y - e) - b.w by omega]; exact g3)
    · intro hall
      refine ⟨fun c => hall [] c, fun z hz => ?_⟩
      have hz := List.mem_range.1 hz
      have s1 : 0 ≤ onI W i ((z : Int) + 1) → 0 ≤ onI Y k ((z : Int) + 1) := fun o1 => by
        obtain ⟨a, ha, p1, p2, _, p4, _, p6⟩ := on_yes h hw hi hrq o1
        have ra := hrng a ha
        obtain ⟨v, c, hv⟩ := h.coA ha
        have := (hall (((z : Int) + 1) :: v) (c + a.w - (x - d))).1 (CW.cons.2 ⟨a, ha, p1, p2, by rw [show c + a.w - (x - d) + (x - d) - a.w = c by omega]; exact hv⟩)
        obtain ⟨b, hb, g1, g2, _⟩ := CW.cons.1 this
        exact on_no h' hw' hk hrr hb g1 g2
      have s2 : 0 ≤ onI Y k ((z : Int) + 1) → 0 ≤ onI W i ((z : Int) + 1) := fun o1 => by
        obtain ⟨b, hb, p1, p2, _, p4, _, p6⟩ := on_yes h' hw' hk hrr o1
        have ra := hrng' b hb
        obtain ⟨v, c, hv⟩ := h'.coA hb
        have := (hall (((z : Int) + 1) :: v) (c + b.w - (y - e))).2 (CW.cons.2 ⟨b, hb, p1, p2, by rw [show c + b.w - (y - e) + (y - e) - b.w = c by omega]; exact hv⟩)
        obtain ⟨a, ha, g1, g2, _⟩ := CW.cons.1 this
        exact on_no h hw hi hrq ha g1 g2
      unfold alkS2
      by_cases o1 : 0 ≤ onI W i ((z : Int) + 1)
      · have o2 := s1 o1
        rw [decide_eq_false (show ¬ onI W i ((z : Int) + 1) < 0 by omega), decide_eq_false (show ¬ onI Y k ((z : Int) + 1) < 0 by omega), if_neg (by simp), if_pos o1]
        obtain ⟨a, ha, p1, p2, _, p4, _, p6⟩ := on_yes h hw hi hrq o1
        obtain ⟨b, hb, r1, r2, _, r4, _, r6⟩ := on_yes h' hw' hk hrr o2
        have ra := hrng a ha
        have rb := hrng' b hb
        have ea : ((a.t.toNat : Nat) : Int) = a.t := by omega
        have eb : ((b.t.toNat : Nat) : Int) = b.t := by omega
        refine (alk2_iff f _ _ x y a.t.toNat b.t.toNat (d + a.w) (e + b.w) p4.2 r4.2 (by omega) (by omega) (by omega) (by rw [ea]; exact p6) (by rw [eb]; exact r6)).2 fun v c => ?_
        rw [ea, eb]
        have hv := hall (((z : Int) + 1) :: v) c
        constructor
        · intro g
          obtain ⟨b', hb', t1, t2, t3⟩ := CW.cons.1 (hv.1 (CW.cons.2 ⟨a, ha, p1, p2, by rw [show c + (x - d) - a.w = c + (x - (d + a.w)) by omega]; exact g⟩))
          have := (h'.detD 0 0).one b hb b' hb' (r1.trans t1.symm) (r2.trans t2.symm)
          subst this
          rwa [show c + (y - e) - b.w = c + (y - (e + b.w)) by omega] at t3
        · intro g
          obtain ⟨a', ha', t1, t2, t3⟩ := CW.cons.1 (hv.2 (CW.cons.2 ⟨b, hb, r1, r2, by rw [show c + (y - e) - b.w = c + (y - (e + b.w)) by omega]; exact g⟩))
          have := (h.detD 0 0).one a ha a' ha' (p1.trans t1.symm) (p2.trans t2.symm)
          subst this
          rwa [show c + (x - d) - a.w = c + (x - (d + a.w)) by omega] at t3
      · have o2 : ¬ 0 ≤ onI Y k ((z : Int) + 1) := fun c => o1 (s2 c)
        rw [decide_eq_true (show onI W i ((z : Int) + 1) < 0 by omega), decide_eq_true (show onI Y k ((z : Int) + 1) < 0 by omega), if_neg (by simp), if_neg o1]
end

section
variable {F U : TF} {st : DS} (h : DetH F U st) (h12 : F.st ≤ 12) (hn : ∃ w c, CW U U.start w c) {W vs : List (List Int)} {par sym : List Int} (hw : WSt U W vs par sym W.length 1)

/-- The distance of a state of what is made. -/
def dsD (U : TF) (st : DS) (q : Nat) : Int := (onS (mkD U st 0 0)).1.getD q 0

include h h12 hn

theorem dsD_is {q : Nat} (hq : q < st.1.length) : MinOf (fun c => ∃ w, CW (mkD U st 0 0) q w c) (dsD U st q) ∧ 0 ≤ dsD U st q ∧ dsD U st q ≤ 100000000000 := by
  have hB := (h.fokB h12 0 0).1
  have hm := onS_min hB (q := q) (by show q < ((st.1.length : Nat) : Int).toNat; omega)
  obtain ⟨w, c, hc⟩ := h.co hn 0 0 hq
  have h1 := hm.le ⟨w, hc⟩
  have hlow := hm.low
  obtain ⟨v, hv⟩ := hm.is h1.1
  refine ⟨hm, by unfold dsD; omega, ?_⟩
  obtain ⟨w0, d0, hr⟩ := h.ri.rch q hq
  obtain ⟨t, d, k1, k2, k3⟩ := hv
  have hall : CW (mkD U st 0 0) 0 (w0 ++ v) (d0 + (dsD U st q)) := ⟨t, d0 + d, hr.app k1, k2, by unfold dsD; omega⟩
  have hd0 := (h.ri.sub h.hU hr).r0
  obtain ⟨t2, d2, k4, k5, k6⟩ := (h.cw1 hall).is (by have := CW.pos hB _ _ _ hall; omega)
  have := (h.short h12 k4).2
  have hfu : U.fin.getD t2.toNat 0 ≤ 1000000000 := by
    by_cases hj : t2.toNat < U.fin.length
    · exact (h.uok.1.fin _ (getD_mem U.fin _ 0 hj)).2
    · simp only [List.getD, List.getElem?_eq_none (show U.fin.length ≤ t2.toNat by omega), Option.getD_none]; omega
  omega

include hw
/-- The best of a beginning: what its way costs, and the distance from there on. -/
theorem bst_is {j : Nat} (hj : j < W.length) {q : Nat} {d : Int} (hq : q < st.1.length) (hr : RdW st.2 0 (W.getD j []) q d) : bstW U W vs W.length j = d + dsD U st q := by
  have hm := bst_min h hw W.length j hj (by omega)
  obtain ⟨d1, d2, _⟩ := dsD_is h h12 hn hq
  have hd0 := (h.ri.sub h.hU hr).r0
  have hB := (h.fokB h12 0 0).1
  refine hm.eq (Q := fun c => ∃ v, CW U U.start (W.getD j [] ++ v) c) ?_ fun c => Iff.rfl
  have hsum : MinOf (fun c => ∃ v, CW (mkD U st 0 0) 0 (W.getD j [] ++ v) c) (d + dsD U st q) := by
    refine .inr ⟨by omega, ?_, ?_⟩
    · obtain ⟨v, t, e, k1, k2, k3⟩ := d1.is (by omega)
      exact ⟨v, t, d + e, hr.app k1, k2, by omega⟩
    · rintro c ⟨v, t, e, k1, k2, k3⟩
      obtain ⟨q', x, y, l1, l2, l3⟩ := RdW.split k1
      obtain ⟨rfl, rfl⟩ := RdW.det (h.detD 0 0) l1 hr
      have := (d1.le (c := y + (mkD U st 0 0).fin.getD t.toNat 0) ⟨v, t, y, l2, k2, rfl⟩).2
      omega
  refine hsum.dom (fun c ⟨v, hv⟩ => ⟨v, (h.cw1 hv).is (by have := CW.pos hB _ _ _ hv; omega)⟩) fun c ⟨v, hv⟩ => ?_
  obtain ⟨m, h1, h2⟩ := h.cw2 (cf := 0) (ca := 0) hv
  exact ⟨m, h1, v, h2⟩

omit hn in
theorem alk_iff (i k : Nat) (x y : Int) (q r : Nat) (d e : Int) (hi : i < W.length) (hk : k < W.length) (hq : q < st.1.length) (hr : r < st.1.length) (hrq : RdW st.2 0 (W.getD i []) q d) (hrr : RdW st.2 0 (W.getD k []) r e) :
    alkW U W vs W.length i k x y = true ↔ ∀ v c, CW (mkD U st 0 0) q v (c + (x - d)) ↔ CW (mkD U st 0 0) r v (c + (y - e)) := by
  rw [alkW_eq]
  exact alk2_iff h h12 hw h h12 hw W.length i k x y q r d e hi hk (by omega) hq hr hrq hrr

/-- Two beginnings speak for one state just where their states have one class. -/
theorem lsA_iff {c1 c2 : Nat} {cls : List Int} (hc : ClsOk (phT (mkD U st 0 0) c1 c2) cls) {i k : Nat} (hi : i < W.length) (hk : k < W.length) {q r : Nat} {d e : Int} (hq : q < st.1.length) (hr : r < st.1.length) (hrq : RdW st.2 0 (W.getD i []) q d) (hrr : RdW st.2 0 (W.getD k []) r e) :
    lsA U W vs i k = true ↔ cls.getD q 0 = cls.getD r 0 := by
  have hB := (h.fokB h12 0 0).1
  have b1 := bst_is h h12 hn hw hi hq hrq
  have b2 := bst_is h h12 hn hw hk hr hrr
  have hX := ph_dfst hB (c1 := c1) (c2 := c2) fun q hq => by
    have hq : q < ((st.1.length : Nat) : Int).toNat := hq
    have := dsD_is h h12 hn (q := q) (by omega)
    unfold dsD at this
    omega
  have hXd := ph_det (c1 := c1) (c2 := c2) (h.detD 0 0)
  have hXp := ph_psh hB (c1 := c1) (c2 := c2) fun q hq => by
    have hq : q < ((st.1.length : Nat) : Int).toNat := hq
    exact h.co hn 0 0 (by omega)
  have hXr := ph_round (c1 := c1) (c2 := c2) (h.round 0 0)
  have hst2 : (phT (mkD U st 0 0) c1 c2).st = ((st.1.length : Nat) : Int) := rfl
  unfold lsA
  rw [alk_iff h h12 hw i k _ _ q r d e hi hk hq hr hrq hrr, b1, b2]
  have conv : ∀ (q : Nat) (hq : q < st.1.length) (v : List Int) (c : Int), CW (phT (mkD U st 0 0) c1 c2) q v c ↔ CW (mkD U st 0 0) q v (c + dsD U st q) := fun q hq v c => by
    have := ph_cw hB (c1 := c1) (c2 := c2) v (q : Int) c ⟨by omega, by show (q : Int) < ((st.1.length : Nat) : Int); omega⟩
    rw [Int.toNat_natCast] at this
    exact this
  have e1 : ∀ x y : Int, x + y - x = y := fun x y => by omega
  rw [e1, e1]
  have hlv : ∀ q : Nat, q < st.1.length → LvA (phT (mkD U st 0 0) c1 c2).arcs ((phT (mkD U st 0 0) c1 c2).st.toNat) q := fun q hq =>
    LvA.all (fun a ha => by have := hX.arc a ha; have := hX.st; omega) hXr ⟨by omega, by rw [hst2]; omega⟩
  constructor
  · intro hall
    exact cw_cls hX hc hXd hXp _ q r (by rw [hst2]; omega) (by rw [hst2]; omega) (hlv q hq) (hlv r hr) fun v c => by
      rw [conv q hq, conv r hr]
      exact hall v c
  · intro he v c
    rw [← conv q hq, ← conv r hr]
    exact ⟨cls_cw hX hc v q r c (by rw [hst2]; omega) (by rw [hst2]; omega) he, cls_cw hX hc v r q c (by rw [hst2]; omega) (by rw [hst2]; omega) he.symm⟩
end
end Go.Fw
