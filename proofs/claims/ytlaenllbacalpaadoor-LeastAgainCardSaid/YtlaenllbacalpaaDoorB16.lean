/- Printed by genbig.py from Fp1-Fp5: the same for weights up to 100000000000. -/
import Derived.Test.YtlaenllbacalpaaDoorB08
import Derived.Test.YtlaenllbacalpaaDoorB15
import Derived.Test.YtlaenllbacalpaaDoorB10
import Derived.Test.YtlaenllbacalpaaDoorB13

set_option linter.unusedSimpArgs false
set_option linter.unusedVariables false

namespace Go.Fw
open Go
structure ArcOkB (st : Int) (a : Arc) : Prop where
  f0 : 0 ≤ a.f
  f1 : a.f < st
  t0 : 0 ≤ a.t
  t1 : a.t < st
  i0 : 0 ≤ a.i ∧ a.i ≤ 9
  o0 : 0 ≤ a.o ∧ a.o ≤ 9
  w0 : 0 ≤ a.w
  w1 : a.w ≤ 100000000000
structure FOkB (F : TF) : Prop where
  st : 1 ≤ F.st ∧ F.st ≤ 200
  start : 0 ≤ F.start ∧ F.start < F.st
  finl : (F.fin.length : Int) = F.st
  fin : ∀ n ∈ F.fin, -1 ≤ n ∧ n ≤ 100000000000
  arcl : F.arcs.length ≤ 3000
  arc : ∀ a ∈ F.arcs, ArcOkB F.st a
theorem Bd.rlxQ {st B : Int} {c : List Int} (h : Bd st B c) (hB : 0 ≤ B) {a : Arc} (ha : ArcOkB st a) : Bd st (B + 100000000000) (relax c a) := by
  refine ⟨by simp [Fw.relax, h.len], fun v hv => ?_⟩
  have h1 := h.at ha.t0 ha.t1
  have h2 := h.at ha.f0 ha.f1
  have h3 := ha.w0
  have h4 := ha.w1
  unfold Fw.relax at hv
  rcases List.mem_or_eq_of_mem_set hv with hv | rfl
  · have := h.bd v hv; omega
  · unfold less plus
    repeat' split
    all_goals omega
theorem Bd.foldQ {st : Int} : ∀ (l : List Arc) {B : Int} {c : List Int}, Bd st B c → 0 ≤ B → (∀ a ∈ l, ArcOkB st a) → Bd st (B + 100000000000 * l.length) (roundF l c)
  | [], B, c, h, hB, _ => by simpa [roundF] using h
  | a :: l, B, c, h, hB, hl => by
    have := Bd.foldQ l (h.rlxQ hB (hl a (by simp))) (by omega) (fun x hx => hl x (by simp [hx]))
    have e : roundF (a :: l) c = roundF l (relax c a) := rfl
    rw [e]
    refine ⟨this.len, fun v hv => ?_⟩
    have := this.bd v hv
    simp only [List.length_cons]
    omega
theorem swap_okB {st : Int} {a : Arc} (h : ArcOkB st a) : ArcOkB st (swap a) := ⟨h.t0, h.t1, h.f0, h.f1, h.i0, h.o0, h.w0, h.w1⟩
theorem backs_okB {F : TF} (h : FOkB F) : ∀ a ∈ backs F, ArcOkB F.st a := by
  intro a ha
  simp only [backs, List.mem_map, List.mem_reverse] at ha
  obtain ⟨b, hb, rfl⟩ := ha
  exact swap_okB (h.arc b hb)
theorem fin_bdB {F : TF} (h : FOkB F) : Bd F.st 100000000000 F.fin := ⟨h.finl, h.fin⟩
theorem Bd.iterTQ {F : TF} (h : FOkB F) : ∀ n : Nat, Bd F.st (100000000000 + 300000000000000 * n) (iterN (roundF (backs F)) n F.fin)
  | 0 => by have := fin_bdB h; simpa [iterN] using this
  | n + 1 => by
    have h1 := Bd.foldQ (backs F) (Bd.iterTQ h n) (by omega) (backs_okB h)
    refine ⟨h1.len, fun v hv => ?_⟩
    have h2 := h1.bd v hv
    have := h.arcl
    have := backs_len F
    omega
theorem RN.ltQ {l : List Arc} {st : Int} {c0 : List Int} (hl : ∀ a ∈ l, ArcOkB st a) (hn : (c0.length : Int) = st) {k v : Nat} {c : Int} (h : RN l c0 k v c) : v < c0.length := by
  cases h with
  | base h _ => exact h
  | step h ha => have h1 := (hl _ ha).t0; have h2 := (hl _ ha).t1; omega
theorem RN.posQ {l : List Arc} {st : Int} {c0 : List Int} (hl : ∀ a ∈ l, ArcOkB st a) (h0 : ∀ v ∈ c0, -1 ≤ v) {k v : Nat} {c : Int} (h : RN l c0 k v c) : 0 ≤ c := by
  induction h with
  | base h hc => have := h0 _ (getD_mem c0 _ 0 h); omega
  | step h ha ih => have h1 := (hl _ ha).w0; omega
theorem relax_specB {st : Int} {c : List Int} {B : Int} (hb : Bd st B c) {a : Arc} (ha : ArcOkB st a) : RlxS c (relax c a) a := by
  have h1 := hb.at ha.t0 ha.t1
  have h2 := hb.at ha.f0 ha.f1
  have h3 := ha.w0
  have hlen := hb.len
  have hlt : a.t.toNat < c.length := by have := ha.t0; have := ha.t1; omega
  have key : (less (c.getD a.t.toNat 0) (plus (c.getD a.f.toNat 0) a.w) = c.getD a.t.toNat 0 ∧ (c.getD a.f.toNat 0 ≠ -1 → Le (c.getD a.t.toNat 0) (c.getD a.f.toNat 0 + a.w))) ∨
      (c.getD a.f.toNat 0 ≠ -1 ∧ less (c.getD a.t.toNat 0) (plus (c.getD a.f.toNat 0) a.w) = c.getD a.f.toNat 0 + a.w ∧ Le (c.getD a.f.toNat 0 + a.w) (c.getD a.t.toNat 0)) := by
    generalize c.getD a.t.toNat 0 = t at *
    generalize c.getD a.f.toNat 0 = f at *
    unfold less plus Le
    by_cases hf : f < 0
    · left
      have : f < 0 ∨ a.w < 0 := .inl hf
      simp only [if_pos this]
      refine ⟨?_, fun h => by omega⟩
      split
      · omega
      · simp
    · have : ¬ (f < 0 ∨ a.w < 0) := by omega
      simp only [if_neg this]
      by_cases ht : t < 0
      · right
        rw [if_pos ht]
        exact ⟨by omega, rfl, fun h => by omega⟩
      · rw [if_neg ht]
        by_cases hlt : f + a.w < 0 ∨ t < f + a.w
        · left
          rw [if_pos hlt]
          exact ⟨rfl, fun _ _ => by omega⟩
        · right
          rw [if_neg hlt]
          exact ⟨by omega, rfl, fun h => by omega⟩
  have hg : ∀ v, (relax c a).getD v 0 = if a.t.toNat = v ∧ v < c.length then less (c.getD a.t.toNat 0) (plus (c.getD a.f.toNat 0) a.w) else c.getD v 0 := fun v => getD_set _ _ _ _ _
  refine ⟨by simp [relax], fun v => ?_, fun hf => ?_, fun v => ?_⟩
  · rw [hg]
    split
    · rename_i h
      obtain ⟨rfl, _⟩ := h
      rcases key with ⟨e, _⟩ | ⟨_, e, h⟩
      · rw [e]; exact Le.refl _
      · rw [e]; exact h
    · exact Le.refl _
  · rw [hg, if_pos ⟨rfl, hlt⟩]
    rcases key with ⟨e, h⟩ | ⟨_, e, h⟩
    · rw [e]; exact h hf
    · rw [e]; exact Le.refl _
  · rw [hg]
    split
    · rename_i h
      obtain ⟨rfl, _⟩ := h
      rcases key with ⟨e, _⟩ | ⟨h1, e, _⟩
      · exact .inl e
      · exact .inr ⟨rfl, h1, e⟩
    · exact .inl rfl
theorem fold_specB {st : Int} : ∀ (l : List Arc) {c : List Int} {B : Int}, Bd st B c → 0 ≤ B → (∀ a ∈ l, ArcOkB st a) → FoldS l c (roundF l c)
  | [], c, B, hb, _, _ => ⟨rfl, fun v => Le.refl _, fun a h => by cases h⟩
  | a :: l, c, B, hb, hB, hl => by
    have ha := hl a (by simp)
    have h1 := relax_specB hb ha
    have h2 := fold_specB l (hb.rlxQ hB ha) (by omega) (fun x hx => hl x (by simp [hx]))
    have e : roundF (a :: l) c = roundF l (relax c a) := rfl
    rw [e]
    refine ⟨h2.len.trans h1.len, fun v => (h2.le v).trans (h1.le v), ?_⟩
    intro b hb' hf
    rcases List.mem_cons.1 hb' with rfl | hb'
    · exact (h2.le _).trans (h1.to hf)
    · have h3 := h1.le b.f.toNat hf
      have h4 := h2.to b hb' h3.1
      intro hne
      have hw := (hl b (by simp [hb'])).w0
      have h5 := hb.at (hl b (by simp [hb'])).f0 (hl b (by simp [hb'])).f1
      have h6 := (hb.rlxQ hB ha).at (hl b (by simp [hb'])).f0 (hl b (by simp [hb'])).f1
      have h7 := h4 (by omega)
      exact ⟨h7.1, by omega⟩
theorem fold_reachB {st : Int} {L : List Arc} {c0 : List Int} : ∀ (l : List Arc) {c : List Int} {B : Int}, Bd st B c → 0 ≤ B → (∀ a ∈ l, ArcOkB st a) → (∀ a ∈ l, a ∈ L) →
    (∀ v, v < c.length → c.getD v 0 ≠ -1 → ∃ k, RN L c0 k v (c.getD v 0)) → ∀ v, v < (roundF l c).length → (roundF l c).getD v 0 ≠ -1 → ∃ k, RN L c0 k v ((roundF l c).getD v 0)
  | [], c, B, hb, _, _, _, h => h
  | a :: l, c, B, hb, hB, hl, hL, h => by
    have ha := hl a (by simp)
    have h1 := relax_specB hb ha
    have e : roundF (a :: l) c = roundF l (relax c a) := rfl
    rw [e]
    refine fold_reachB l (hb.rlxQ hB ha) (by omega) (fun x hx => hl x (by simp [hx])) (fun x hx => hL x (by simp [hx])) ?_
    intro v hv hne
    rcases h1.eq v with e1 | ⟨rfl, e1, e2⟩
    · rw [e1] at hne ⊢
      exact h v (by rw [h1.len] at hv; exact hv) hne
    · rw [e2]
      have hf : a.f.toNat < c.length := by have := ha.f0; have := ha.f1; have := hb.len; omega
      obtain ⟨k, hk⟩ := h _ hf e1
      exact ⟨k + 1, .step hk (hL a (by simp))⟩
theorem bf_specB {st : Int} {l : List Arc} {c0 : List Int} {B : Int} (hb : Bd st B c0) (hB : 0 ≤ B) (hl : ∀ a ∈ l, ArcOkB st a) : ∀ r : Nat,
    (∃ B', 0 ≤ B' ∧ Bd st B' (iterN (roundF l) r c0)) ∧ (∀ v, v < c0.length → (iterN (roundF l) r c0).getD v 0 ≠ -1 → ∃ k, RN l c0 k v ((iterN (roundF l) r c0).getD v 0)) ∧
      ∀ k v c, RN l c0 k v c → k ≤ r → Le ((iterN (roundF l) r c0).getD v 0) c
  | 0 => by
    refine ⟨⟨B, hB, hb⟩, fun v hv hc => ⟨0, .base hv hc⟩, ?_⟩
    intro k v c h hk
    cases h with
    | base h hc => exact Le.refl _
    | step h ha => omega
  | r + 1 => by
    obtain ⟨⟨B', hB', hb'⟩, h1, h2⟩ := bf_specB hb hB hl r
    have hlen : (iterN (roundF l) r c0).length = c0.length := by have := hb'.len; have := hb.len; omega
    have hf := fold_specB l hb' hB' hl
    have e : iterN (roundF l) (r + 1) c0 = roundF l (iterN (roundF l) r c0) := rfl
    rw [e]
    refine ⟨⟨_, by omega, Bd.foldQ l hb' hB' hl⟩, ?_, ?_⟩
    · intro v hv
      exact fold_reachB l hb' hB' hl (fun _ h => h) (fun v hv => h1 v (by omega)) v (by rw [hf.len]; omega)
    · intro k v c h hk
      have hpos : ∀ v ∈ c0, -1 ≤ v := fun v hv => (hb.bd v hv).1
      cases h with
      | base h hc => exact (hf.le _).trans (h2 _ _ _ (.base h hc) (by omega))
      | step h ha =>
        rename_i k a c
        have h3 := h2 _ _ _ h (by omega)
        have hc := h.posQ hl hpos
        have h4 := h3 (by omega)
        have h5 := hf.to a ha h4.1
        intro _
        have hw := (hl a ha).w0
        have h6 := hb'.at (hl a ha).f0 (hl a ha).f1
        have h7 := h5 (by omega)
        exact ⟨h7.1, by omega⟩
theorem Sol.leQ {st : Int} {l : List Arc} {c0 D : List Int} (h : Sol l c0 D) (hl : ∀ a ∈ l, ArcOkB st a) (hn : (c0.length : Int) = st) (h0 : ∀ v ∈ c0, -1 ≤ v) (hD : ∀ v, v < c0.length → -1 ≤ D.getD v 0) {k v : Nat} {c : Int} (hr : RN l c0 k v c) : Le (D.getD v 0) c := by
  induction hr with
  | base hv hc => exact h.s1 _ hv
  | step hr ha ih =>
    rename_i k a c
    have hc := hr.posQ hl h0
    have h1 := ih (by omega)
    have h2 := h.s2 a ha h1.1
    intro _
    have hw := (hl a ha).w0
    have h3 := hD a.f.toNat (hr.ltQ hl hn)
    have h4 := h2 (by omega)
    exact ⟨h4.1, by omega⟩
theorem Sol.eqQ {st : Int} {l l' : List Arc} {c0 D : List Int} {B : Int} (h : Sol l c0 D) (hb : Bd st B c0) (hB : 0 ≤ B) (hl : ∀ a ∈ l, ArcOkB st a) (hll : ∀ a, a ∈ l ↔ a ∈ l') : D = iterN (roundF l') c0.length c0 := by
  have hl' : ∀ a ∈ l', ArcOkB st a := fun a ha => hl a ((hll a).2 ha)
  obtain ⟨⟨B', hB', hb'⟩, h1, h2⟩ := bf_specB hb hB hl' c0.length
  have h0 : ∀ v ∈ c0, -1 ≤ v := fun v hv => (hb.bd v hv).1
  have hlen : (iterN (roundF l') c0.length c0).length = c0.length := by have := hb'.len; have := hb.len; omega
  have hD : ∀ v, v < c0.length → -1 ≤ D.getD v 0 := by
    intro v hv
    by_cases e : D.getD v 0 = -1
    · omega
    · obtain ⟨k, _, hk⟩ := h.s3 v hv e
      have := hk.posQ hl h0; omega
  refine List.ext_getElem (h.len.trans hlen.symm) fun v hv hv' => ?_
  have hv0 : v < c0.length := by rw [h.len] at hv; exact hv
  have e1 : D[v] = D.getD v 0 := by simp [List.getD, hv]
  have e2 : (iterN (roundF l') c0.length c0)[v] = (iterN (roundF l') c0.length c0).getD v 0 := by simp [List.getD, hv']
  rw [e1, e2]
  by_cases c1 : D.getD v 0 = -1
  · by_cases c2 : (iterN (roundF l') c0.length c0).getD v 0 = -1
    · rw [c1, c2]
    · obtain ⟨k, hk⟩ := h1 v hv0 c2
      have := h.leQ hl hb.len h0 hD (hk.perm fun a ha => (hll a).2 ha) c2
      exact absurd c1 this.1
  · obtain ⟨k, hk, hr⟩ := h.s3 v hv0 c1
    have h3 := h2 k v _ (hr.perm fun a ha => (hll a).1 ha) hk c1
    obtain ⟨k', hk'⟩ := h1 v hv0 h3.1
    have h4 := h.leQ hl hb.len h0 hD (hk'.perm fun a ha => (hll a).2 ha) h3.1
    omega
theorem DJ.stepQ {l : List Arc} {st : Int} {c0 c b : List Int} {d : List Bool} {u : Nat} {m : List (Arc × Nat)} {c' b' : List Int} (h : DI l c0 c b d) (hl : ∀ a ∈ l, ArcOkB st a) (hn : (c0.length : Int) = st)
    (hul : u < c0.length) (hud : d.getD u false = false) (huc : c.getD u 0 ≠ -1) (hj : DJ l c0 c b d u m c' b') {p : Arc × Nat} (hp : p.1 ∈ l) :
    DJ l c0 c b d u (m ++ [p]) (setlS (u : Int) (c', b') p).1 (setlS (u : Int) (c', b') p).2 := by
  have ha := hl p.1 hp
  have hu0 := h.low u hul
  have w0 := ha.w0
  have htl : p.1.t.toNat < c0.length := by have := ha.t0; have := ha.t1; omega
  have hat := hj.at_
  unfold setlS
  simp only [Int.toNat_natCast]
  by_cases hb : p.1.f = (u : Int) ∧ better (c'.getD u 0 + p.1.w) (c'.getD p.1.t.toNat 0) = true
  · rw [if_pos hb]
    obtain ⟨hf, hb⟩ := hb
    rw [better_iff, hat] at hb
    have htu : p.1.t.toNat ≠ u := by
      intro e
      rw [e, hat] at hb
      omega
    have htd : d.getD p.1.t.toNat false = false := by
      cases hx : d.getD p.1.t.toNat false with
      | false => rfl
      | true =>
        have h1 := h.ord _ u hx hul hud huc
        have h2 := hj.done _ hx
        have h3 := h.fin _ hx
        rw [h2] at hb
        omega
    have hg : ∀ v, (c'.set p.1.t.toNat (c'.getD u 0 + p.1.w)).getD v 0 = if p.1.t.toNat = v ∧ v < c'.length then c.getD u 0 + p.1.w else c'.getD v 0 := fun v => by rw [getD_set, hat]
    refine ⟨by simp [hj.len], by simp [hj.lenb], ?_, ?_, ?_, ?_, ?_, ?_, ?_⟩
    · rw [hg, if_neg (fun hh => htu hh.1)]; exact hat
    · intro v hv
      rw [hg, if_neg (fun hh => by rw [← hh.1, htd] at hv; cases hv)]
      exact hj.done v hv
    · intro v hv
      rw [hg]
      split
      · omega
      · exact hj.low v hv
    · intro v
      rw [hg]
      split
      · rename_i hh
        obtain ⟨rfl, _⟩ := hh
        intro hne
        have := hj.le _ hne
        exact ⟨hb.1, by rcases hb.2 with h1 | h1 <;> omega⟩
      · exact hj.le v
    · intro v hv hd hc
      rw [hg] at hc ⊢
      split
      · omega
      · rename_i hh
        rw [if_neg hh] at hc
        exact hj.ge v hv hd hc
    · intro q hq hqf
      rw [hg]
      rcases List.mem_append.1 hq with hq | hq
      · split
        · rename_i hh
          have h1 := hj.out q hq hqf
          intro hne
          have h2 := h1 hne
          rw [← hh.1] at h2
          exact ⟨hb.1, by rcases hb.2 with h3 | h3 <;> omega⟩
        · exact hj.out q hq hqf
      · rw [List.mem_singleton] at hq
        subst hq
        rw [if_pos ⟨rfl, by rw [hj.len]; exact htl⟩]
        exact Le.refl _
    · intro v hv hc
      rw [hg] at hc ⊢
      split
      · rename_i hh
        obtain ⟨rfl, _⟩ := hh
        obtain ⟨k, hk, hr⟩ := h.rn u hul huc
        have hfu : p.1.f.toNat = u := by omega
        exact ⟨k + 1, by omega, .step (hfu ▸ hr) hp⟩
      · rename_i hh
        rw [if_neg hh] at hc
        exact hj.rn v hv hc
  · rw [if_neg hb]
    refine ⟨hj.len, hj.lenb, hj.at_, hj.done, hj.low, hj.le, hj.ge, ?_, hj.rn⟩
    intro q hq hqf
    rcases List.mem_append.1 hq with hq | hq
    · exact hj.out q hq hqf
    · rw [List.mem_singleton] at hq
      subst hq
      have hf : q.1.f = (u : Int) := by have := ha.f0; omega
      have h1 : ¬ better (c'.getD u 0 + q.1.w) (c'.getD q.1.t.toNat 0) = true := fun hx => hb ⟨hf, hx⟩
      rw [better_iff, hat] at h1
      intro hne
      have h2 := hj.low _ htl
      show c'.getD q.1.t.toNat 0 ≠ -1 ∧ c'.getD q.1.t.toNat 0 ≤ c.getD u 0 + q.1.w
      omega
theorem DJ.foldQ {l : List Arc} {st : Int} {c0 c b : List Int} {d : List Bool} {u : Nat} (h : DI l c0 c b d) (hl : ∀ a ∈ l, ArcOkB st a) (hn : (c0.length : Int) = st) (hul : u < c0.length) (hud : d.getD u false = false) (huc : c.getD u 0 ≠ -1) :
    ∀ (r m : List (Arc × Nat)) (c' b' : List Int), (∀ p ∈ r, p.1 ∈ l) → DJ l c0 c b d u m c' b' → DJ l c0 c b d u (m ++ r) (setlR r (u : Int) (c', b')).1 (setlR r (u : Int) (c', b')).2
  | [], m, c', b', _, hj => by simpa [setlR] using hj
  | p :: r, m, c', b', hr, hj => by
    have h1 := hj.stepQ h hl hn hul hud huc (hr p (by simp))
    have h2 := DJ.foldQ h hl hn hul hud huc r _ _ _ (fun q hq => hr q (by simp [hq])) h1
    have e : m ++ p :: r = m ++ [p] ++ r := by simp
    rw [e]
    exact h2
theorem DI.nextQ {l : List Arc} {st : Int} {c0 c b : List Int} {d : List Bool} {u : Nat} (h : DI l c0 c b d) (hl : ∀ a ∈ l, ArcOkB st a) (hn : (c0.length : Int) = st) (hul : u < c0.length) (hud : d.getD u false = false) (huc : c.getD u 0 ≠ -1)
    (hu : ∀ v, v < c.length → d.getD v false = false → c.getD v 0 ≠ -1 → c.getD u 0 ≤ c.getD v 0) {r : List (Arc × Nat)} (hr : ∀ a, a ∈ l ↔ ∃ i, (a, i) ∈ r) :
    DI l c0 (setlR r (u : Int) (c, b)).1 (setlR r (u : Int) (c, b)).2 (d.set u true) := by
  have hj := DJ.foldQ h hl hn hul hud huc r [] c b (fun p hp => (hr p.1).2 ⟨p.2, hp⟩) (DJ.start h hu)
  rw [List.nil_append] at hj
  have hdl := h.lend
  have hg : ∀ v, (d.set u true).getD v false = if u = v ∧ v < d.length then true else d.getD v false := fun v => getD_set _ _ _ _ _
  have hcnt := (count_set d u (by omega) hud).1
  have hset : ∀ v, (d.set u true).getD v false = true → v = u ∨ d.getD v false = true := by
    intro v hv
    rw [hg] at hv
    split at hv
    · rename_i hh; exact .inl hh.1.symm
    · exact .inr hv
  have hset' : ∀ v, (d.set u true).getD v false = false → v ≠ u ∧ d.getD v false = false := by
    intro v hv
    rw [hg] at hv
    split at hv
    · cases hv
    · rename_i hh; exact ⟨fun e => hh ⟨e.symm, by omega⟩, hv⟩
  refine ⟨hj.len, hj.lenb, by simp [hdl], hj.low, fun v hv => (hj.le v).trans (h.s1 v hv), ?_, ?_, ?_, ?_⟩
  · intro v hv
    rcases hset v hv with rfl | hv
    · rw [hj.at_]; exact huc
    · rw [hj.done v hv]; exact h.fin v hv
  · intro a ha hf
    rcases hset _ hf with hf | hf
    · obtain ⟨i, hi⟩ := (hr a).1 ha
      rw [hf, hj.at_]
      exact hj.out (a, i) hi hf
    · rw [hj.done _ hf]
      exact (hj.le _).trans (h.out a ha hf)
  · intro v hv hc
    obtain ⟨k, hk, hr'⟩ := hj.rn v hv hc
    exact ⟨k, by rw [hcnt]; exact hk, hr'⟩
  · intro x v hx hv hd hc
    obtain ⟨_, hd'⟩ := hset' v hd
    have h1 := hj.ge v hv hd' hc
    rcases hset x hx with rfl | hx
    · rw [hj.at_]; exact h1
    · rw [hj.done x hx]
      have := h.ord x u hx hul hud huc
      omega
theorem DI.end_Q {l : List Arc} {st : Int} {c0 c b : List Int} {d : List Bool} (h : DI l c0 c b d) (hl : ∀ a ∈ l, ArcOkB st a) (hn : (c0.length : Int) = st) (hp : ∀ v, v < c.length → d.getD v false = false → c.getD v 0 = -1) : Sol l c0 c := by
  refine ⟨h.len, h.s1, ?_, ?_⟩
  · intro a ha hf
    have hfl : a.f.toNat < c.length := by have := (hl a ha).f0; have := (hl a ha).f1; have := h.len; omega
    refine h.out a ha ?_
    cases hx : d.getD a.f.toNat false with
    | true => rfl
    | false => exact absurd (hp _ hfl hx) hf
  · intro v hv hc
    obtain ⟨k, hk, hr⟩ := h.rn v hv hc
    have := List.count_le_length (a := true) (l := d)
    exact ⟨k, by have := h.lend; omega, hr⟩
theorem setl_solB {l : List Arc} {st : Int} {c0 : List Int} (hl : ∀ a ∈ l, ArcOkB st a) (hn : (c0.length : Int) = st) {r : List (Arc × Nat)} (hr : ∀ a, a ∈ l ↔ ∃ i, (a, i) ∈ r) :
    ∀ (k : Nat) (c b : List Int) (d : List Bool), DI l c0 c b d → c0.length < k + d.count true → Sol l c0 (setl r k c b d).1 ∧ (setl r k c b d).2.length = c0.length
  | 0, c, b, d, h, hk => by
    have := List.count_le_length (a := true) (l := d)
    have := h.lend
    omega
  | k + 1, c, b, d, h, hk => by
    simp only [setl]
    rcases pick_spec c d c.length (Nat.le_refl _) with ⟨h1, h2⟩ | ⟨h1, h2, h3, h4, h5⟩
    · rw [if_pos h1]
      exact ⟨h.end_Q hl hn h2, h.lenb⟩
    · rw [if_neg (by omega)]
      have hul : (pick c d c.length).toNat < c0.length := by rw [← h.len]; exact h2
      have hnext := h.nextQ hl hn hul h3 h4 h5 hr
      have e : ((pick c d c.length).toNat : Int) = pick c d c.length := by omega
      rw [e] at hnext
      have hdl := h.lend
      exact setl_solB hl hn hr k _ _ _ hnext (by rw [(count_set d _ (by omega) h3).1]; omega)
theorem settled_solB {l : List Arc} {st : Int} {c0 : List Int} {B : Int} (hl : ∀ a ∈ l, ArcOkB st a) (hb : Bd st B c0) : Sol l c0 (settled l c0.length c0).1 ∧ (settled l c0.length c0).2.length = c0.length := by
  refine setl_solB hl hb.len (fun a => ?_) (c0.length + 1) _ _ _ ?_ (by omega)
  · constructor
    · intro ha
      obtain ⟨i, hi, he⟩ := List.getElem_of_mem ha
      exact ⟨i, by rw [List.mem_zipIdx_iff_getElem?]; simp [hi, he]⟩
    · rintro ⟨i, hi⟩
      rw [List.mem_zipIdx_iff_getElem?] at hi
      exact List.mem_of_getElem? hi
  · have hf : ∀ v, (List.replicate c0.length false).getD v false = false := by
      intro v
      simp only [List.getD, List.getElem?_replicate]
      split <;> rfl
    refine ⟨rfl, by simp, by simp, fun v hv => (hb.bd _ (getD_mem c0 v 0 hv)).1, fun v hv => Le.refl _, ?_, ?_, ?_, ?_⟩
    · intro v hv; rw [hf] at hv; cases hv
    · intro a _ hv; rw [hf] at hv; cases hv
    · intro v hv hc; exact ⟨0, Nat.zero_le _, .base hv hc⟩
    · intro u v hv; rw [hf] at hv; cases hv
theorem settled_eqB {l l' : List Arc} {st : Int} {c0 : List Int} {B : Int} (hl : ∀ a ∈ l, ArcOkB st a) (hb : Bd st B c0) (hB : 0 ≤ B) (hll : ∀ a, a ∈ l ↔ a ∈ l') : (settled l c0.length c0).1 = iterN (roundF l') c0.length c0 :=
  (settled_solB hl hb).1.eqQ hb hB hl hll
structure SBB (st B : Int) (u : Int) (cu : Int) (r : List Int × List Int) : Prop where
  bd : Bd st (B + 100000000000) r.1
  at_ : r.1.getD u.toNat 0 = cu
  lenb : (r.2.length : Int) = st
theorem SBB.stepQ {st B u cu : Int} {r : List Int × List Int} (h : SBB st B u cu r) (hu : 0 ≤ u) (hu1 : u < st) (hc : cu ≠ -1) (hB : cu ≤ B) {p : Arc × Nat} (ha : ArcOkB st p.1) : SBB st B u cu (setlS u r p) := by
  unfold setlS
  by_cases hb : p.1.f = u ∧ better (r.1.getD u.toNat 0 + p.1.w) (r.1.getD p.1.t.toNat 0) = true
  · rw [if_pos hb]
    obtain ⟨_, hb⟩ := hb
    rw [better_iff, h.at_] at hb
    have w0 := ha.w0
    have w1 := ha.w1
    have hlen := h.bd.len
    have hcu := h.bd.at hu hu1
    rw [h.at_] at hcu
    refine ⟨⟨by simp [hlen], fun v hv => ?_⟩, ?_, by simp [h.lenb]⟩
    · rcases List.mem_or_eq_of_mem_set hv with hv | rfl
      · exact h.bd.bd v hv
      · rw [h.at_]; omega
    · rw [getD_set]
      split
      · rename_i hh
        rw [hh.1, h.at_] at hb
        omega
      · exact h.at_
  · rw [if_neg hb]
    exact h
theorem SBB.foldQ {st B u cu : Int} (hu : 0 ≤ u) (hu1 : u < st) (hc : cu ≠ -1) (hB : cu ≤ B) : ∀ (l : List (Arc × Nat)) {r : List Int × List Int}, SBB st B u cu r → (∀ p ∈ l, ArcOkB st p.1) → SBB st B u cu (setlR l u r)
  | [], r, h, _ => h
  | p :: l, r, h, hl => SBB.foldQ hu hu1 hc hB l (h.stepQ hu hu1 hc hB (hl p (by simp))) (fun q hq => hl q (by simp [hq]))
theorem zip_okB {st : Int} {l : List Arc} (hl : ∀ a ∈ l, ArcOkB st a) : ∀ p ∈ l.zipIdx, ArcOkB st p.1 := by
  rintro ⟨a, i⟩ hp
  rw [List.mem_zipIdx_iff_getElem?] at hp
  exact hl a (List.mem_of_getElem? hp)
structure SIB (st : Int) (l : List (Arc × Nat)) (R : List Int × List Int) (k : Nat) (c b : List Int) (d : List Bool) : Prop where
  kk : k ≤ st.toNat + 1
  bd : Bd st (100000000000 * (203 - k)) c
  lenb : (b.length : Int) = st
  lend : (d.length : Int) = st
  eq : setl l k c b d = R
  cnt : st.toNat < k + d.count true
theorem SIB.k1Q {st : Int} {l : List (Arc × Nat)} {R : List Int × List Int} {k : Nat} {c b : List Int} {d : List Bool} (h : SIB st l R k c b d) : ∃ k', k = k' + 1 := by
  have := List.count_le_length (a := true) (l := d)
  have := h.cnt
  have := h.lend
  exact ⟨k - 1, by omega⟩
theorem SIB.overQ {st : Int} {l : List (Arc × Nat)} {R : List Int × List Int} {k : Nat} {c b : List Int} {d : List Bool} (h : SIB st l R k c b d) (hp : pick c d c.length < 0) : R = (c, b) := by
  obtain ⟨k', rfl⟩ := h.k1Q
  have := h.eq
  simp only [setl, if_pos hp] at this
  exact this.symm
theorem SIB.nextQ {st : Int} (hst : 1 ≤ st ∧ st ≤ 200) {l : List (Arc × Nat)} {R : List Int × List Int} {k : Nat} {c b : List Int} {d : List Bool} (h : SIB st l R k c b d) (hl : ∀ p ∈ l, ArcOkB st p.1) (hp : ¬ pick c d c.length < 0) :
    SIB st l R (k - 1) (setlR l (pick c d c.length) (c, b)).1 (setlR l (pick c d c.length) (c, b)).2 (d.set (pick c d c.length).toNat true) ∧ k - 1 < k ∧
      0 ≤ pick c d c.length ∧ pick c d c.length < st ∧ c.getD (pick c d c.length).toNat 0 ≠ -1 ∧ SBB st (100000000000 * (203 - k)) (pick c d c.length) (c.getD (pick c d c.length).toNat 0) (c, b) ∧ c.getD (pick c d c.length).toNat 0 ≤ 100000000000 * (203 - k) := by
  obtain ⟨k', rfl⟩ := h.k1Q
  have hlen := h.bd.len
  have hlend := h.lend
  rcases pick_spec c d c.length (Nat.le_refl _) with ⟨h1, _⟩ | ⟨h1, h2, h3, h4, h5⟩
  · exact absurd h1 hp
  · have hlt : pick c d c.length < st := by omega
    have hb := h.bd.at h1 hlt
    have kk := h.kk
    have sb : SBB st (100000000000 * (203 - (k' + 1 : Nat))) (pick c d c.length) (c.getD (pick c d c.length).toNat 0) (c, b) :=
      ⟨⟨hlen, fun v hv => by have := h.bd.bd v hv; omega⟩, rfl, h.lenb⟩
    have sb2 := sb.foldQ h1 hlt h4 hb.2 l hl
    have heq := h.eq
    simp only [setl, if_neg hp] at heq
    refine ⟨⟨by omega, ⟨sb2.bd.len, fun v hv => ?_⟩, sb2.lenb, by simp [hlend], ?_, ?_⟩, by omega, h1, hlt, h4, sb, hb.2⟩
    · have := sb2.bd.bd v hv
      simp only [Nat.add_sub_cancel]
      omega
    · simpa using heq
    · have := h.cnt
      rw [(count_set d _ (by omega) h3).1]
      omega
theorem SIB.startQ {st : Int} (hst : 1 ≤ st ∧ st ≤ 200) {l : List Arc} {c : List Int} (hc : Bd st 100000000000 c) : SIB st l.zipIdx (settled l c.length c) (c.length + 1) c (List.replicate c.length (-1)) (List.replicate c.length false) := by
  have := hc.len
  refine ⟨by omega, ⟨hc.len, fun v hv => ?_⟩, by simp [hc.len], by simp [hc.len], rfl, by omega⟩
  have := hc.bd v hv
  omega
theorem toOf_bdB {F : TF} (h : FOkB F) : Bd F.st 100000000000000000 (toOf F) := by
  have h1 := Bd.iterTQ h F.st.toNat
  have := h.st
  exact ⟨h1.len, fun v hv => by have := h1.bd v hv; omega⟩
end Go.Fw

namespace Go.Fw
open Go Go.Proofs
set_option maxHeartbeats 8000000 in
set_option maxRecDepth 20000 in
theorem settle_cB (F : TF) (hF : FOkB F) (c : List Int) (hc : Bd F.st 100000000000 c) (g : Nat) (e : Arc → Arc) (hg : ∀ a, Ct Tryd.prog g [arcV a] [] [] 0 (Is 0 (.tup [.c (.i (e a).f), .c (.i (e a).t)])))
    (hcf : ∀ args w, (callFunc g args).run Tryd.prog w = .ok (.enter g args) w) (hw : ∀ a, (e a).w = a.w) (he : ∀ a, ArcOkB F.st a → ArcOkB F.st (e a)) (cap sp : Nat) (hcap : cap ≤ c.length + sp) (hcl : c.length ≤ cap) :
    Ct Tryd.prog 100 [fV F, .c (.sl 2 1 0 c.length cap), .c (.fn g [])] [] [(0, .arr false 3 .int F.fin 0), (1, .arr false 50 .arc F.arcs 0), (2, .arr true 3 .int c sp)] 3
      (fun v s => v = .c (.sl 3 1 0 c.length c.length) ∧ s = ⟨[], [(2, .arr true 3 .int (settled (F.arcs.map e) c.length c).1 sp), (3, .arr true 3 .int (settled (F.arcs.map e) c.length c).2 0)], 4⟩) := by
  have hst := hF.st
  have hlen := hc.len
  have hst2 : F.st.toNat = c.length := by omega
  refine ctW Tryd.tyOk 16 [23, 24, 25, 60, 61, 62] Tryd.func100 rfl (by simp) (by simp) (fr := [(0, fV F), (1, .c (.sl 2 1 0 c.length cap)), (2, .c (.fn g []))]) rfl ?_
  repeat' (first | exact rfl | ((conv => whnf); first | (refine qX (fun h => ?_) fun h => ?_ <;> try exact absurd h (by omega)) | refine oN ?_ | refine oM ?_ ?_ | refine bM ?_ ?_ | refine dR ?_))
  refine callF (repeat_c (-1) F.st 1 (by omega) (by omega)) [4] Tryd.call92 rfl (by simp) (by simp) (by simp) ?_
  rintro _ _ ⟨rfl, rfl⟩
  repeat' (first | exact rfl | ((conv => whnf); first | (refine qX (fun h => ?_) fun h => ?_ <;> try exact absurd h (by omega)) | refine oN ?_ | refine oM ?_ ?_ | refine bM ?_ ?_ | refine dR ?_))
  (conv => whnf)
  refine loopI (fun x : Nat × List Int × List Int × List Bool => ⟨[(1, .c (.sl 2 1 0 c.length cap)), (2, .c (.fn g [])), (3, .c (.ptr 3 0)), (7, .c (.sl 5 1 0 c.length c.length)), (8, .c (.sl 6 1 0 c.length c.length))], [(1, .arr false 50 .arc F.arcs 0), (2, .arr true 3 .int x.2.1 sp), (3, .box 25 (fCells F)), (5, .arr true 3 .int x.2.2.1 0), (6, .arr true 4 .bool x.2.2.2 0)], 7⟩)
    (fun x => SIB F.st (F.arcs.map e).zipIdx (settled (F.arcs.map e) c.length c) x.1 x.2.1 x.2.2.1 x.2.2.2) (fun x => x.1) (c.length + 1, c, List.replicate c.length (-1), List.replicate c.length false) [] ⟨by rfl, ?_, ?_⟩ (SIB.startQ hst hc) ?_
  · simp [hst2]
  · simp [hst2, fCells]
    exact .inr rfl
  · rintro ⟨k, c1, b1, d1⟩ hx
    simp only at hx ⊢
    have hl1 := hx.bd.len
    have hl2 := hx.lenb
    have hl3 := hx.lend
    have hl4 : c1.length = c.length := by omega
    repeat' (first | exact rfl | ((conv => whnf); first | (refine qX (fun h => ?_) fun h => ?_ <;> try exact absurd h (by omega)) | refine oN ?_ | refine oM ?_ ?_ | refine bM ?_ ?_ | refine dR ?_))
    (conv => whnf)
    refine loopI (fun j : Nat => ⟨[(1, .c (.sl 2 1 0 c.length cap)), (2, .c (.fn g [])), (3, .c (.ptr 3 0)), (7, .c (.sl 5 1 0 c.length c.length)), (8, .c (.sl 6 1 0 c.length c.length)), (9, .i (pick c1 d1 j)), (23, .c (.sl 2 1 0 c.length cap)), (24, .i c.length), (25, .i j)], [(1, .arr false 50 .arc F.arcs 0), (2, .arr true 3 .int c1 sp), (3, .box 25 (fCells F)), (5, .arr true 3 .int b1 0), (6, .arr true 4 .bool d1 0)], 7⟩)
      (fun j => j ≤ c.length) (fun j => c.length - j) 0 [] ⟨by rfl, ?_, ?_⟩ (Nat.zero_le _) ?_
    · simp [hst2, pick]
    · simp [fCells]
    · intro j hj
      have hps := pick_spec c1 d1 j (by omega)
      repeat' (first | exact rfl | ((conv => whnf); first | (refine qX (fun h => ?_) fun h => ?_ <;> try exact absurd h (by omega)) | refine oN ?_ | refine oM ?_ ?_ | refine bM ?_ ?_ | refine dR ?_))
      any_goals
        (conv => whnf)
        refine ⟨j + 1, [], ⟨by rfl, ?_, ?_⟩, by omega, by omega⟩
        · clear hps hx
          simp only [Nat.zero_add, Int.toNat_natCast, EK.dflt] at *
          first
            | (have hp : pick c1 d1 (j + 1) = j := by
                rw [pick, if_pos]
                exact ⟨by simpa using ‹(!d1.getD j false) = true›, by assumption, by first | (left; assumption) | (right; assumption)⟩
               simp [hst2, hp])
            | (have hp : pick c1 d1 (j + 1) = pick c1 d1 j := by
                rw [pick, if_neg]
                rintro ⟨q1, q2, q3⟩
                first | omega | (have hh := ‹(!d1.getD j false) = false›; rw [q1] at hh; cases hh)
               simp [hst2, hp])
        · simp [fCells]
      · have hj2 : j = c1.length := by omega
        subst hj2
        have hR := hx.overQ (by assumption)
        (conv => whnf)
        exact ⟨[(3, some 5)], [(2, .arr true 3 .int c1 sp), (3, .arr true 3 .int b1 0)], 4, .c (.sl 3 1 0 c.length c.length), ⟨by rfl, trivial, by simp⟩, by simp, rfl, by rw [hR]⟩
      · have hj2 : j = c1.length := by omega
        subst hj2
        obtain ⟨n1, n2, n3, n4, n5, n6, n7⟩ := hx.nextQ hst (zip_okB (fun a ha => by
          obtain ⟨b, hb, rfl⟩ := List.mem_map.1 ha
          exact he b (hF.arc b hb))) (by assumption)
        have hsv : ∀ i, i ≤ F.arcs.length → SBB F.st (100000000000 * (203 - k)) (pick c1 d1 c1.length) (c1.getD (pick c1 d1 c1.length).toNat 0) (setlR ((F.arcs.map e).zipIdx.take i) (pick c1 d1 c1.length) (c1, b1)) := fun i _ =>
          n6.foldQ n3 n4 n5 n7 _ (fun p hp => zip_okB (fun a ha => by
            obtain ⟨b, hb, rfl⟩ := List.mem_map.1 ha
            exact he b (hF.arc b hb)) p (List.mem_of_mem_take hp))
        generalize hu : pick c1 d1 c1.length = u at *
        (conv => whnf)
        repeat' (first | exact rfl | ((conv => whnf); first | (refine qX (fun h => ?_) fun h => ?_ <;> try exact absurd h (by omega)) | refine oN ?_ | refine oM ?_ ?_ | refine bM ?_ ?_ | refine dR ?_))
        (conv => whnf)
        refine loopI (fun i : Nat => ⟨[(1, .c (.sl 2 1 0 c.length cap)), (2, .c (.fn g [])), (3, .c (.ptr 3 0)), (7, .c (.sl 5 1 0 c.length c.length)), (8, .c (.sl 6 1 0 c.length c.length)), (9, .i u), (60, .c (.sl 1 5 0 F.arcs.length F.capA)), (61, .i F.arcs.length), (62, .i i)],
            [(1, .arr false 50 .arc F.arcs 0), (2, .arr true 3 .int (setlR ((F.arcs.map e).zipIdx.take i) u (c1, b1)).1 sp), (3, .box 25 (fCells F)), (5, .arr true 3 .int (setlR ((F.arcs.map e).zipIdx.take i) u (c1, b1)).2 0), (6, .arr true 4 .bool (d1.set u.toNat true) 0)], 7⟩)
          (fun i => i ≤ F.arcs.length) (fun i => F.arcs.length - i) 0 [] ⟨by rfl, ?_, ?_⟩ (Nat.zero_le _) ?_
        · simp [hst2]
        · simp [fCells, setlR]
        · intro i hi
          have hbb := hsv i hi
          generalize hr : setlR ((F.arcs.map e).zipIdx.take i) u (c1, b1) = r at hbb ⊢
          have hr1 := hbb.bd.len
          have hr2 := hbb.lenb
          have hsn := zipIdx_take_succ F.arcs e i
          repeat' (first | exact rfl | ((conv => whnf); first | (refine qX (fun h => ?_) fun h => ?_ <;> try exact absurd h (by omega)) | refine oN ?_ | refine oM ?_ ?_ | refine bM ?_ ?_ | refine dR ?_))
          · have hxa := hF.arc _ (getD_mem F.arcs i EK.arc.dflt (by omega))
            replace hsn := hsn (by omega)
            (conv => whnf)
            simp only [Nat.zero_add, Int.toNat_natCast]
            generalize F.arcs.getD i EK.arc.dflt = x at hxa hsn ⊢
            refine callI (hg x) [] hcf rfl trivial (by simp) (by simp) ?_
            have hea := he x hxa
            have hew := hw x
            have t0 := hea.t0
            have t1 := hea.t1
            have w0 := hea.w0
            have w1 := hea.w1
            have hal := hF.arcl
            have hcu := hbb.bd.at n3 n4
            have hat := hbb.at_
            rw [hat] at hcu
            repeat' (first | exact rfl | ((conv => whnf); first | (refine qX (fun h => ?_) fun h => ?_ <;> try exact absurd h (by omega)) | refine oN ?_ | refine oM ?_ ?_ | refine bM ?_ ?_ | refine dR ?_))
            · simp only [Nat.zero_add, EK.dflt, InI]
              omega
            · (conv => whnf)
              simp only [Nat.zero_add, EK.dflt]
              refine cI (better_c (r.1.getD u.toNat 0 + x.w) (r.1.getD (e x).t.toNat 0)) [] Tryd.call105 ?_
              repeat' (first | exact rfl | ((conv => whnf); first | (refine qX (fun h => ?_) fun h => ?_ <;> try exact absurd h (by omega)) | refine oN ?_ | refine oM ?_ ?_ | refine bM ?_ ?_ | refine dR ?_))
              · simp only [Nat.zero_add, EK.dflt, InI]
                omega
              · have hS : setlS u r (e x, i) = (r.1.set (e x).t.toNat (r.1.getD u.toNat 0 + x.w), r.2.set (e x).t.toNat (i : Int)) := by
                  unfold setlS
                  rw [hew]
                  exact if_pos ⟨by assumption, by assumption⟩
                have hS2 : setlR ((F.arcs.map e).zipIdx.take (i + 1)) u (c1, b1) = (r.1.set (e x).t.toNat (r.1.getD u.toNat 0 + x.w), r.2.set (e x).t.toNat (i : Int)) := by rw [hsn, setlR_snoc, hr, hS]
                (conv => whnf)
                refine ⟨i + 1, [], ⟨by rfl, ?_, ?_⟩, by omega, by omega⟩
                · simp [hst2]
                · simp [fCells, hS2, EK.dflt]
              · have hS : setlS u r (e x, i) = r := by
                  unfold setlS
                  rw [hew]
                  refine if_neg fun hh => ?_
                  rw [h] at hh
                  cases hh.2
                have hS2 : setlR ((F.arcs.map e).zipIdx.take (i + 1)) u (c1, b1) = r := by rw [hsn, setlR_snoc, hr, hS]
                (conv => whnf)
                refine ⟨i + 1, [], ⟨by rfl, ?_, ?_⟩, by omega, by omega⟩
                · simp [hst2]
                · simp [fCells, hS2]
            · have hS : setlS u r (e x, i) = r := by
                unfold setlS
                exact if_neg fun hh => absurd hh.1 (by assumption)
              have hS2 : setlR ((F.arcs.map e).zipIdx.take (i + 1)) u (c1, b1) = r := by rw [hsn, setlR_snoc, hr, hS]
              (conv => whnf)
              refine ⟨i + 1, [], ⟨by rfl, ?_, ?_⟩, by omega, by omega⟩
              · simp [hst2]
              · simp [fCells, hS2]
          · rw [List.take_of_length_le (by simp; omega)] at hr
            (conv => whnf)
            refine ⟨(k - 1, r.1, r.2, d1.set u.toNat true), [], ⟨by rfl, ?_, ?_⟩, by rw [← hr]; exact n1, n2⟩
            · simp [hst2]
            · simp [fCells]
theorem onS_eqB {F : TF} (h : FOkB F) : (onS F).1 = toOf F := by
  have hb := fin_bdB h
  unfold onS toOf
  have e : F.st.toNat = F.fin.length := by have := hb.len; omega
  rw [e]
  refine settled_eqB (st := F.st) (fun a ha => ?_) hb (by omega) (fun a => by simp [backs])
  obtain ⟨b, hb, rfl⟩ := List.mem_map.1 ha
  exact swap_okB (h.arc b hb)
set_option maxHeartbeats 4000000 in
set_option maxRecDepth 20000 in
theorem on_cB (F : TF) (hF : FOkB F) : Ct Tryd.prog 90 [fV F] [] (hpF F) 2 (Sl 2 3 .int (onS F).1) := by
  have hst := hF.st
  have hfl := hF.finl
  have hfn : F.fin.length = F.st.toNat := by omega
  refine ctW Tryd.tyOk 4 [] Tryd.func90 rfl (by simp) (by simp) (fr := [(0, fV F)]) rfl ?_
  repeat' (first | exact rfl | ((conv => whnf); first | (refine qX (fun h => ?_) fun h => ?_ <;> try exact absurd h (by omega)) | refine oN ?_ | refine oM ?_ ?_ | refine bM ?_ ?_ | refine dR ?_))
  refine cF (clone_c F.fin F.capF (by omega)) [0] Tryd.call91 ?_
  rintro _ _ ⟨sp, rfl, rfl⟩
  repeat' (first | exact rfl | ((conv => whnf); first | (refine qX (fun h => ?_) fun h => ?_ <;> try exact absurd h (by omega)) | refine oN ?_ | refine oM ?_ ?_ | refine bM ?_ ?_ | refine dR ?_))
  (conv => whnf)
  have hsc := settle_cB F hF F.fin ⟨hF.finl, hF.fin⟩ 101 swap on1_swap Tryd.call101 (fun _ => rfl) (fun _ h => swap_okB h) (F.fin.length + sp) sp (by omega) (by omega)
  refine cF (hsc) [0, 1, 3] Tryd.call100 ?_
  rintro _ _ ⟨rfl, rfl⟩
  repeat' (first | exact rfl | ((conv => whnf); first | (refine qX (fun h => ?_) fun h => ?_ <;> try exact absurd h (by omega)) | refine oN ?_ | refine oM ?_ ?_ | refine bM ?_ ?_ | refine dR ?_))
  (conv => whnf)
  have e : (onS F).1.length = F.fin.length := by
    have := (settled_solB (l := F.arcs.map swap) (fun a ha => by
      obtain ⟨b, hb, rfl⟩ := List.mem_map.1 ha
      exact swap_okB (hF.arc b hb)) (fin_bdB hF)).1.len
    unfold onS
    rw [← hfn]
    exact this
  refine ⟨[(2, some 3)], [(2, .arr true 3 .int (onS F).1 sp)], 3, .c (.sl 2 1 0 (onS F).1.length ((onS F).1.length + sp)), ⟨by rfl, trivial, by simp [onS, hfn]⟩, by simp [e], sp, rfl, rfl⟩
theorem onS_bdB {F : TF} (h : FOkB F) : Bd F.st 100000000000000000 (onS F).1 := by rw [onS_eqB h]; exact toOf_bdB h
set_option maxHeartbeats 8000000 in
set_option maxRecDepth 20000 in
theorem pushed_cB (F : TF) (hF : FOkB F) : Ct Tryd.prog 73 [fV F] [] (hpF F) 2 (fun v s =>
    if (onS F).1.getD F.start.toNat 0 = -1 then ∃ sp, v = .tup [.agg [.i F.st, .i F.start, .sl 2 1 0 F.fin.length (F.fin.length + sp), .v (.slice none 0 0)], .c (.i (-1))] ∧ s = ⟨[], [(2, .arr true 3 .int F.fin sp)], 3⟩
    else ∃ sp sp', v = .tup [.agg [.i F.st, .i F.start, .sl 2 1 0 F.fin.length (F.fin.length + sp), .sl 3 5 0 (pushL (onS F).1 F.arcs).length ((pushL (onS F).1 F.arcs).length + sp')], .c (.i ((onS F).1.getD F.start.toNat 0))] ∧
      s = ⟨[], [(2, .arr true 3 .int (pushF (onS F).1 F.fin F.fin.length) sp), (3, .arr true 50 .arc (pushL (onS F).1 F.arcs) sp')], 4⟩) := by
  have hst := hF.st
  have hsr := hF.start
  have hfl := hF.finl
  have hal := hF.arcl
  have hD := onS_bdB hF
  have hDl := hD.len
  have hDs := hD.at hsr.1 hsr.2
  refine ctW Tryd.tyOk 10 [28, 29, 30, 49, 50, 51] Tryd.func73 rfl (by simp) (by simp) (fr := [(0, fV F)]) rfl ?_
  repeat' (first | exact rfl | ((conv => whnf); first | (refine qX (fun h => ?_) fun h => ?_ <;> try exact absurd h (by omega)) | refine oN ?_ | refine oM ?_ ?_ | refine bM ?_ ?_ | refine dR ?_))
  refine cF (on_cB F hF) [0, 1] Tryd.call90 ?_
  rintro _ _ ⟨sd, rfl, rfl⟩
  generalize hDD : (onS F).1 = D at *
  repeat' (first | exact rfl | ((conv => whnf); first | (refine qX (fun h => ?_) fun h => ?_ <;> try exact absurd h (by omega)) | refine oN ?_ | refine oM ?_ ?_ | refine bM ?_ ?_))
  (conv => whnf)
  refine drawCut (fun sp : Nat => ⟨[(1, .c (.ptr 2 0)), (2, .c (.ptr 3 0)), (3, .c (.i 0)), (4, .c (.sl 4 1 0 D.length (D.length + sd))), (5, .c (.ptr 6 0))],
    [(1, .arr false 50 .arc F.arcs 0), (0, .arr false 3 .int F.fin 0), (2, .box 25 (fCells F)), (3, .box 25 [.i 0, .i 0, .v (.slice none 0 0), .v (.slice none 0 0)]), (4, .arr true 3 .int D sd), (5, .arr true 3 .int F.fin sp), (6, .box 25 [.i F.st, .i F.start, .sl 5 1 0 F.fin.length (F.fin.length + sp), .v (.slice none 0 0)])], 7⟩) (fun _ => True) ?_ ?_
  · repeat' (first | exact rfl | ((conv => whnf); first | (refine qX (fun h => ?_) fun h => ?_ <;> try exact absurd h (by omega)) | refine oN ?_ | refine oM ?_ ?_ | refine bM ?_ ?_ | refine dR ?_))
    · (conv => whnf)
      refine cF (clone_c F.fin F.capF (by omega)) [0] Tryd.call91 ?_
      rintro _ _ ⟨sp, rfl, rfl⟩
      repeat' (first | exact rfl | ((conv => whnf); first | (refine qX (fun h => ?_) fun h => ?_ <;> try exact absurd h (by omega)) | refine oN ?_ | refine oM ?_ ?_ | refine bM ?_ ?_ | refine dR ?_))
      (conv => whnf)
      refine ⟨sp, [], ⟨by rfl, ?_, ?_⟩, trivial⟩
      · simp
      · simp [fCells]
    · (conv => whnf)
      refine cF (clone_c F.fin F.capF (by omega)) [0] Tryd.call91 ?_
      rintro _ _ ⟨sp, rfl, rfl⟩
      repeat' (first | exact rfl | ((conv => whnf); first | (refine qX (fun h => ?_) fun h => ?_ <;> try exact absurd h (by omega)) | refine oN ?_ | refine oM ?_ ?_ | refine bM ?_ ?_ | refine dR ?_))
      (conv => whnf)
      refine ⟨sp, [(5, some 6), (6, some 5)], ⟨by rfl, ?_, ?_⟩, trivial⟩
      · simp
      · simp [fCells]
  · intro sp _
    repeat' (first | exact rfl | ((conv => whnf); first | (refine qX (fun h => ?_) fun h => ?_ <;> try exact absurd h (by omega)) | refine oN ?_ | refine oM ?_ ?_ | refine bM ?_ ?_ | refine dR ?_))
    · rename_i h
      simp only [Nat.zero_add, EK.dflt] at h
      (conv => whnf)
      exact ⟨[(2, some 5)], [(2, .arr true 3 .int F.fin sp)], 3, .tup [.agg [.i F.st, .i F.start, .sl 2 1 0 F.fin.length (F.fin.length + sp), .v (.slice none 0 0)], .c (.i (-1))], ⟨by rfl, trivial, by simp⟩, by simp, (if_pos h).mpr ⟨sp, rfl, rfl⟩⟩
    · rename_i h
      simp only [Nat.zero_add, EK.dflt] at h
      (conv => whnf)
      refine loopI (fun k : Nat => ⟨[(1, .c (.ptr 2 0)), (2, .c (.ptr 3 0)), (3, .c (.i 0)), (4, .c (.sl 4 1 0 D.length (D.length + sd))), (5, .c (.ptr 6 0)), (28, .c (.sl 0 1 0 F.fin.length F.capF)), (29, .i F.fin.length), (30, .i k)],
        [(1, .arr false 50 .arc F.arcs 0), (0, .arr false 3 .int F.fin 0), (2, .box 25 (fCells F)), (3, .box 25 [.i 0, .i 0, .v (.slice none 0 0), .v (.slice none 0 0)]), (4, .arr true 3 .int D sd), (5, .arr true 3 .int (pushF D F.fin k) sp), (6, .box 25 [.i F.st, .i F.start, .sl 5 1 0 F.fin.length (F.fin.length + sp), .v (.slice none 0 0)])], 7⟩)
        (fun k => k ≤ F.fin.length) (fun k => F.fin.length - k) 0 [] ⟨by rfl, ?_, ?_⟩ (by omega) ?_
      · simp
      · simp [fCells, pushF_zero]
      · intro k hk
        have hpl := pushF_len D F.fin k
        have hpy := pushF_yes D F.fin k
        have hpn := pushF_no D F.fin k
        repeat' (first | exact rfl | ((conv => whnf); first | (refine qX (fun h => ?_) fun h => ?_ <;> try exact absurd h (by omega)) | refine oN ?_ | refine oM ?_ ?_ | refine bM ?_ ?_ | refine dR ?_))
        · rename_i h1 h2
          simp only [Nat.zero_add, Int.toNat_natCast, EK.dflt] at h2 ⊢
          have b1 := hF.fin _ (getD_mem F.fin k 0 (by omega))
          have b2 := hD.bd _ (getD_mem D k 0 (by omega))
          unfold InI
          omega
        · simp only [Nat.zero_add, Int.toNat_natCast, EK.dflt] at h ⊢
          have e := hpy (by omega) h
          (conv => whnf)
          refine ⟨k + 1, [], ⟨by rfl, ?_, ?_⟩, by omega, by omega⟩
          · simp
          · simp [fCells, e, EK.dflt]
        · simp only [Nat.zero_add, Int.toNat_natCast, EK.dflt] at h ⊢
          have e := hpn h
          (conv => whnf)
          refine ⟨k + 1, [], ⟨by rfl, ?_, ?_⟩, by omega, by omega⟩
          · simp
          · simp [fCells, e]
        · clear hpy hpn
          have e : k = F.fin.length := by omega
          subst e
          generalize hPF : pushF D F.fin F.fin.length = pf at *
          (conv => whnf)
          refine loopI (fun x : Nat × Nat => ⟨[(1, .c (.ptr 2 0)), (2, .c (.ptr 3 0)), (3, .c (.i 0)), (4, .c (.sl 4 1 0 D.length (D.length + sd))), (5, .c (.ptr 6 0)), (49, .c (.sl 1 5 0 F.arcs.length F.capA)), (50, .i F.arcs.length), (51, .i x.1)],
            [(1, .arr false 50 .arc F.arcs 0), (2, .box 25 (fCells F)), (3, .box 25 [.i 0, .i 0, .v (.slice none 0 0), .v (.slice none 0 0)]), (4, .arr true 3 .int D sd), (5, .arr true 3 .int pf sp), (6, .box 25 [.i F.st, .i F.start, .sl 5 1 0 F.fin.length (F.fin.length + sp), .sl 7 5 0 (pushL D (F.arcs.take x.1)).length ((pushL D (F.arcs.take x.1)).length + x.2)]), (7, .arr true 50 .arc (pushL D (F.arcs.take x.1)) x.2)], 8⟩)
            (fun x => x.1 ≤ F.arcs.length) (fun x => F.arcs.length - x.1) (0, 0) [(7, none)] ⟨by rfl, ?_, ?_⟩ (by omega) ?_
          · simp
          · simp [fCells, pushL, nilO]
          · rintro ⟨k, sp'⟩ hk
            simp only at hk ⊢
            have hsn := pushL_snoc D F.arcs k
            have hln := pushL_len D (F.arcs.take k)
            have htl : (F.arcs.take k).length ≤ 3000 := by rw [List.length_take]; omega
            generalize hpp : pushL D (F.arcs.take k) = pl at hsn hln ⊢
            (conv => whnf)
            refine condP_dec (fun hk2 => ?_) (fun hk2 => ?_)
            · replace hsn := hsn (by omega)
              have hx := hF.arc _ (getD_mem F.arcs k EK.arc.dflt (by omega))
              have e0 : 0 + (k : Int).toNat = k := by omega
              rw [← e0] at hx hsn
              have f0 := hx.f0
              have f1 := hx.f1
              have t0 := hx.t0
              have t1 := hx.t1
              have w0 := hx.w0
              have w1 := hx.w1
              have bf : -1 ≤ D.getD (0 + (F.arcs.getD (0 + (k : Int).toNat) EK.arc.dflt).f.toNat) EK.int.dflt ∧ D.getD (0 + (F.arcs.getD (0 + (k : Int).toNat) EK.arc.dflt).f.toNat) EK.int.dflt ≤ 100000000000000000 := by simpa only [Nat.zero_add, EK.dflt] using hD.at f0 f1
              have bt : -1 ≤ D.getD (0 + (F.arcs.getD (0 + (k : Int).toNat) EK.arc.dflt).t.toNat) EK.int.dflt ∧ D.getD (0 + (F.arcs.getD (0 + (k : Int).toNat) EK.arc.dflt).t.toNat) EK.int.dflt ≤ 100000000000000000 := by simpa only [Nat.zero_add, EK.dflt] using hD.at t0 t1
              repeat' (first | exact rfl | ((conv => whnf); first | (refine qX (fun h => ?_) fun h => ?_ <;> try exact absurd h (by omega)) | refine oN ?_ | refine oM ?_ ?_ | refine bM ?_ ?_ | refine dR ?_))
              · rename_i h1
                simp only [Nat.zero_add, Int.toNat_natCast, EK.dflt] at h h1 hsn
                rw [pushA, if_neg (not_or.2 ⟨h1, h⟩)] at hsn
                intro sp2
                repeat' (first | exact rfl | ((conv => whnf); first | (refine qX (fun h => ?_) fun h => ?_ <;> try exact absurd h (by omega)) | refine oN ?_ | refine oM ?_ ?_ | refine bM ?_ ?_ | refine dR ?_))
                (conv => whnf)
                refine ⟨(k + 1, sp2), [(7, some 10)], ⟨by rfl, ?_, ?_⟩, by simp only; omega, by simp only; omega⟩
                · simp
                · simp [fCells, hsn, EK.dflt]
                  exact (app_one pl _ _ rfl).symm
              · simp only [Nat.zero_add, Int.toNat_natCast, EK.dflt] at h hsn
                rw [pushA, if_pos (.inr h)] at hsn
                simp only [List.append_nil] at hsn
                (conv => whnf)
                refine ⟨(k + 1, sp'), [], ⟨by rfl, ?_, ?_⟩, by simp only; omega, by simp only; omega⟩
                · simp
                · simp [fCells, hsn]
              · simp only [Nat.zero_add, Int.toNat_natCast, EK.dflt] at h hsn
                rw [pushA, if_pos (.inl h)] at hsn
                simp only [List.append_nil] at hsn
                (conv => whnf)
                refine ⟨(k + 1, sp'), [], ⟨by rfl, ?_, ?_⟩, by simp only; omega, by simp only; omega⟩
                · simp
                · simp [fCells, hsn]
            · have e : F.arcs.take k = F.arcs := List.take_of_length_le (by omega)
              rw [e] at hpp
              clear hsn
              repeat' (first | exact rfl | ((conv => whnf); first | (refine qX (fun h => ?_) fun h => ?_ <;> try exact absurd h (by omega)) | refine oN ?_ | refine oM ?_ ?_ | refine bM ?_ ?_ | refine dR ?_))
              (conv => whnf)
              exact ⟨[(2, some 5), (3, some 7)], [(2, .arr true 3 .int pf sp), (3, .arr true 50 .arc pl sp')], 4,
                .tup [.agg [.i F.st, .i F.start, .sl 2 1 0 F.fin.length (F.fin.length + sp), .sl 3 5 0 pl.length (pl.length + sp')], .c (.i (D.getD F.start.toNat 0))], ⟨by rfl, trivial, by simp⟩, by simp [EK.dflt], (if_neg ‹_›).mpr (by rw [hpp]; exact ⟨sp, sp', rfl, rfl⟩)⟩
end Go.Fw

namespace Go.Fw
open Go Go.Proofs
def fineB (F : TF) : Bool := bothB F && !silB F && !roundB F.arcs F.st.toNat
def greatB (arcs : List Arc) (fin : List Int) : Bool := (arcs.any fun a => decide (a.w > 1000000000)) || fin.any fun x => decide (x > 1000000000)
theorem FRng.of {F : TF} (h : FOk F) : FRng F := by
  have := h.st
  have := h.arcl
  refine ⟨by omega, h.finl, by omega, fun a ha => ?_⟩
  obtain ⟨q1, q2, q3, q4, _⟩ := h.arc a ha
  exact ⟨q1, q2, q3, q4⟩
set_option maxHeartbeats 4000000 in
set_option maxRecDepth 20000 in
theorem great_c (F : TF) (h1 : F.arcs.length ≤ 9223372036854775807) (h2 : F.fin.length ≤ 9223372036854775807) : Ct Tryd.prog 38 [fV F] [] (hpF F) 2 (Is 2 (.b (greatB F.arcs F.fin))) := by
  refine ctW Tryd.tyOk 3 [] Tryd.func38 rfl (by simp) (by simp) (fr := [(0, fV F)]) rfl ?_
  repeat' (first | exact rfl | ((conv => whnf); first | (refine qX (fun h => ?_) fun h => ?_ <;> try exact absurd h (by omega)) | refine oN ?_ | refine oM ?_ ?_ | refine bM ?_ ?_ | refine dR ?_))
  (conv => whnf)
  refine cI (containsFuncA_c F.arcs F.capA (by omega) 67 (fun a => decide (a.w > 1000000000)) great1_c Tryd.call67) [1] Tryd.call60 ?_
  unfold greatB
  generalize (F.arcs.any fun a => decide (a.w > 1000000000)) = x
  cases x with
  | true =>
    repeat' (first | exact rfl | ((conv => whnf); first | (refine qX (fun h => ?_) fun h => ?_ <;> try exact absurd h (by omega)) | refine oN ?_ | refine oM ?_ ?_ | refine bM ?_ ?_ | refine dR ?_))
    (conv => whnf)
    refine Back.is ?_
    simp
  | false =>
    repeat' (first | exact rfl | ((conv => whnf); first | (refine qX (fun h => ?_) fun h => ?_ <;> try exact absurd h (by omega)) | refine oN ?_ | refine oM ?_ ?_ | refine bM ?_ ?_ | refine dR ?_))
    (conv => whnf)
    refine cI (containsFunc_c F.fin F.capF (by omega) 68 (fun a => decide (a > 1000000000)) great2_c Tryd.call68) [0] Tryd.call57 ?_
    repeat' (first | exact rfl | ((conv => whnf); first | (refine qX (fun h => ?_) fun h => ?_ <;> try exact absurd h (by omega)) | refine oN ?_ | refine oM ?_ ?_ | refine bM ?_ ?_ | refine dR ?_))
    (conv => whnf)
    refine Back.is ?_
    simp
set_option maxHeartbeats 4000000 in
set_option maxRecDepth 20000 in
theorem fine_c (F : TF) (hF : FRng F) : Ct Tryd.prog 36 [fV F] [] (hpF F) 2 (Is 2 (.b (fineB F))) := by
  have hal := hF.arcl
  refine ctW Tryd.tyOk 3 [] Tryd.func36 rfl (by simp) (by simp) (fr := [(0, fV F)]) rfl ?_
  repeat' (first | exact rfl | ((conv => whnf); first | (refine qX (fun h => ?_) fun h => ?_ <;> try exact absurd h (by omega)) | refine oN ?_ | refine oM ?_ ?_ | refine bM ?_ ?_ | refine dR ?_))
  (conv => whnf)
  refine cI (both_c F (by omega)) [0, 1] Tryd.call30 ?_
  unfold fineB
  generalize bothB F = x
  cases x with
  | false =>
    repeat' (first | exact rfl | ((conv => whnf); first | (refine qX (fun h => ?_) fun h => ?_ <;> try exact absurd h (by omega)) | refine oN ?_ | refine oM ?_ ?_ | refine bM ?_ ?_ | refine dR ?_))
    (conv => whnf)
    refine Back.is ?_
    simp
  | true =>
    repeat' (first | exact rfl | ((conv => whnf); first | (refine qX (fun h => ?_) fun h => ?_ <;> try exact absurd h (by omega)) | refine oN ?_ | refine oM ?_ ?_ | refine bM ?_ ?_ | refine dR ?_))
    (conv => whnf)
    refine cI (containsFuncA_c F.arcs F.capA (by omega) 62 (fun a => a.i == 0) fine1_c Tryd.call62) [1] Tryd.call60 ?_
    have e : (F.arcs.any fun a => a.i == 0) = silB F := rfl
    rw [e]
    generalize silB F = y
    cases y with
    | true =>
      repeat' (first | exact rfl | ((conv => whnf); first | (refine qX (fun h => ?_) fun h => ?_ <;> try exact absurd h (by omega)) | refine oN ?_ | refine oM ?_ ?_ | refine bM ?_ ?_ | refine dR ?_))
      (conv => whnf)
      refine Back.is ?_
      simp
    | false =>
      repeat' (first | exact rfl | ((conv => whnf); first | (refine qX (fun h => ?_) fun h => ?_ <;> try exact absurd h (by omega)) | refine oN ?_ | refine oM ?_ ?_ | refine bM ?_ ?_ | refine dR ?_))
      (conv => whnf)
      refine cI (circles_c F hF) [0, 1] Tryd.call32 ?_
      repeat' (first | exact rfl | ((conv => whnf); first | (refine qX (fun h => ?_) fun h => ?_ <;> try exact absurd h (by omega)) | refine oN ?_ | refine oM ?_ ?_ | refine bM ?_ ?_ | refine dR ?_))
      (conv => whnf)
      refine Back.is ?_
      simp
def isV (F : TF) : SV := if fstE F = 0 then .tup [.c (.b (bothB F && sglB F.arcs)), .c (.i 0)] else .tup [.c (.b false), .c (.i (fstE F))]
def roundV (F : TF) : SV := if fstE F = 0 then .tup [.c (.b (roundB F.arcs F.st.toNat)), .c (.i 0)] else .tup [.c (.b false), .c (.i (fstE F))]
set_option maxHeartbeats 4000000 in
set_option maxRecDepth 20000 in
theorem is_c (F : TF) (hl : F.fin.length ≤ 9223372036854775807) : Ct Tryd.prog 8 [fV F] [] (hpF F) 2 (Is 2 (isV F)) := by
  by_cases h : fstE F = 0
  · have hF := fstE_ok h
    have hal := hF.arcl
    unfold isV
    rw [if_pos h]
    refine ctW Tryd.tyOk 5 [] Tryd.func8 rfl (by simp) (by simp) (fr := [(0, fV F)]) rfl ?_
    repeat' (first | exact rfl | ((conv => whnf); first | (refine qX (fun h => ?_) fun h => ?_ <;> try exact absurd h (by omega)) | refine oN ?_ | refine oM ?_ ?_ | refine bM ?_ ?_ | refine dR ?_))
    refine cI (check_c F hl) [0, 1] Tryd.call29 ?_
    rw [h]
    repeat' (first | exact rfl | ((conv => whnf); first | (refine qX (fun h => ?_) fun h => ?_ <;> try exact absurd h (by omega)) | refine oN ?_ | refine oM ?_ ?_ | refine bM ?_ ?_ | refine dR ?_))
    (conv => whnf)
    refine cI (both_c F (by omega)) [0, 1] Tryd.call30 ?_
    generalize bothB F = x
    cases x with
    | false =>
      repeat' (first | exact rfl | ((conv => whnf); first | (refine qX (fun h => ?_) fun h => ?_ <;> try exact absurd h (by omega)) | refine oN ?_ | refine oM ?_ ?_ | refine bM ?_ ?_ | refine dR ?_))
      (conv => whnf)
      refine Back.is ?_
      simp
    | true =>
      repeat' (first | exact rfl | ((conv => whnf); first | (refine qX (fun h => ?_) fun h => ?_ <;> try exact absurd h (by omega)) | refine oN ?_ | refine oM ?_ ?_ | refine bM ?_ ?_ | refine dR ?_))
      (conv => whnf)
      refine cI (single_c F (by omega)) [0, 1] Tryd.call31 ?_
      repeat' (first | exact rfl | ((conv => whnf); first | (refine qX (fun h => ?_) fun h => ?_ <;> try exact absurd h (by omega)) | refine oN ?_ | refine oM ?_ ?_ | refine bM ?_ ?_ | refine dR ?_))
      (conv => whnf)
      refine Back.is ?_
      simp
  · unfold isV
    rw [if_neg h]
    refine ctW Tryd.tyOk 5 [] Tryd.func8 rfl (by simp) (by simp) (fr := [(0, fV F)]) rfl ?_
    repeat' (first | exact rfl | ((conv => whnf); first | (refine qX (fun h => ?_) fun h => ?_ <;> try exact absurd h (by omega)) | refine oN ?_ | refine oM ?_ ?_ | refine bM ?_ ?_ | refine dR ?_))
    refine cI (check_c F hl) [0, 1] Tryd.call29 ?_
    repeat' (first | exact rfl | ((conv => whnf); first | (refine qX (fun h => ?_) fun h => ?_ <;> try exact absurd h (by omega)) | refine oN ?_ | refine oM ?_ ?_ | refine bM ?_ ?_ | refine dR ?_))
    (conv => whnf)
    refine Back.is ?_
    simp
set_option maxHeartbeats 4000000 in
set_option maxRecDepth 20000 in
theorem round_c (F : TF) (hl : F.fin.length ≤ 9223372036854775807) : Ct Tryd.prog 9 [fV F] [] (hpF F) 2 (Is 2 (roundV F)) := by
  by_cases h : fstE F = 0
  · have hF := fstE_ok h
    unfold roundV
    rw [if_pos h]
    refine ctW Tryd.tyOk 5 [] Tryd.func9 rfl (by simp) (by simp) (fr := [(0, fV F)]) rfl ?_
    repeat' (first | exact rfl | ((conv => whnf); first | (refine qX (fun h => ?_) fun h => ?_ <;> try exact absurd h (by omega)) | refine oN ?_ | refine oM ?_ ?_ | refine bM ?_ ?_ | refine dR ?_))
    refine cI (check_c F hl) [0, 1] Tryd.call29 ?_
    rw [h]
    repeat' (first | exact rfl | ((conv => whnf); first | (refine qX (fun h => ?_) fun h => ?_ <;> try exact absurd h (by omega)) | refine oN ?_ | refine oM ?_ ?_ | refine bM ?_ ?_ | refine dR ?_))
    (conv => whnf)
    refine cI (circles_c F (FRng.of hF)) [0, 1] Tryd.call32 ?_
    repeat' (first | exact rfl | ((conv => whnf); first | (refine qX (fun h => ?_) fun h => ?_ <;> try exact absurd h (by omega)) | refine oN ?_ | refine oM ?_ ?_ | refine bM ?_ ?_ | refine dR ?_))
    (conv => whnf)
    refine Back.is ?_
    simp
  · unfold roundV
    rw [if_neg h]
    refine ctW Tryd.tyOk 5 [] Tryd.func9 rfl (by simp) (by simp) (fr := [(0, fV F)]) rfl ?_
    repeat' (first | exact rfl | ((conv => whnf); first | (refine qX (fun h => ?_) fun h => ?_ <;> try exact absurd h (by omega)) | refine oN ?_ | refine oM ?_ ?_ | refine bM ?_ ?_ | refine dR ?_))
    refine cI (check_c F hl) [0, 1] Tryd.call29 ?_
    repeat' (first | exact rfl | ((conv => whnf); first | (refine qX (fun h => ?_) fun h => ?_ <;> try exact absurd h (by omega)) | refine oN ?_ | refine oM ?_ ?_ | refine bM ?_ ?_ | refine dR ?_))
    (conv => whnf)
    refine Back.is ?_
    simp
end Go.Fw

namespace Go.Fw
open Go Go.Proofs
def detE (F : TF) : Int := if fstE F ≠ 0 then fstE F else if fineB F = true then 0 else 4
theorem WOk.of {F : TF} (h : FOk F) : WOk F := ⟨FRng.of h, fun a ha => ⟨(h.arc a ha).w0, (h.arc a ha).w1⟩, h.fin⟩
def DetPost (F : TF) (x : Obj) (v : SV) (s : S) : Prop :=
  (detE F ≠ 0 ∧ v = .tup [.agg zero25, .c (.i (detE F))] ∧ s = ⟨[], [(2, tabO x)], 3⟩) ∨
  (detE F = 0 ∧ ∃ U, IsUs F U ∧
    (((200 < bgnF U 201 200 [⟨U.start, 0⟩] ∨ bgnF U 201 200 [⟨U.start, 0⟩] ≤ 200 ∧ ∃ st : DS, MDone U st ∧ greatB st.2 (st.1.map (finD U)) = true) ∧ v = .tup [.agg zero25, .c (.i 2)] ∧ s = ⟨[], [(2, tabO x)], 3⟩) ∨
     (bgnF U 201 200 [⟨U.start, 0⟩] ≤ 200 ∧ ∃ st : DS, MDone U st ∧ greatB st.2 (st.1.map (finD U)) = false ∧ ∃ sp sq, v = .tup [.agg [.i (st.1.length : Nat), .i 0, .sl 3 1 0 (st.1.map (finD U)).length ((st.1.map (finD U)).length + sp), .sl 4 5 0 st.2.length (st.2.length + sq)], .c (.i 0)] ∧
       s = ⟨[], [(2, tabO x), (3, .arr true 3 .int (st.1.map (finD U)) sp), (4, .arr true 50 .arc st.2 sq)], 5⟩)))
set_option maxHeartbeats 4000000 in
set_option maxRecDepth 20000 in
theorem determine_c (F : TF) (hl : F.fin.length ≤ 9223372036854775807) (x : Obj) (hx : TabX x) : Ct Tryd.prog 15 [fV F] [] (hpF F ++ [(2, tabO x)]) 3 (DetPost F x) := by
  by_cases h : fstE F = 0
  · have hF := fstE_ok h
    have hst := hF.st
    have hss := hF.start
    by_cases hf : fineB F = true
    · have hd : detE F = 0 := by unfold detE; rw [if_neg (fun c => c h), if_pos hf]
      refine ctW Tryd.tyOk 7 [] Tryd.func15 rfl (by simp) (by simp) (fr := [(0, fV F)]) rfl ?_
      repeat' (first | exact rfl | ((conv => whnf); first | (refine qX (fun h => ?_) fun h => ?_ <;> try exact absurd h (by omega)) | refine oN ?_ | refine oM ?_ ?_ | refine bM ?_ ?_ | refine dR ?_))
      refine cI (check_c F hl) [0, 1] Tryd.call29 ?_
      rw [h]
      repeat' (first | exact rfl | ((conv => whnf); first | (refine qX (fun h => ?_) fun h => ?_ <;> try exact absurd h (by omega)) | refine oN ?_ | refine oM ?_ ?_ | refine bM ?_ ?_ | refine dR ?_))
      (conv => whnf)
      refine cI (fine_c F (FRng.of hF)) [0, 1] Tryd.call36 ?_
      rw [hf]
      repeat' (first | exact rfl | ((conv => whnf); first | (refine qX (fun h => ?_) fun h => ?_ <;> try exact absurd h (by omega)) | refine oN ?_ | refine oM ?_ ?_ | refine bM ?_ ?_ | refine dR ?_))
      (conv => whnf)
      refine cF (made_c F (WOk.of hF) (by omega) (by omega) x hx) [0, 1, 2] Tryd.call37 ?_
      rintro v s ⟨U, hus, ⟨h1, rfl, rfl⟩ | ⟨h1, st, hmd, sp, sq, rfl, rfl⟩⟩
      · simp only [Nat.reduceAdd, Nat.reduceSub]
        repeat' (first | exact rfl | ((conv => whnf); first | (refine qX (fun h => ?_) fun h => ?_ <;> try exact absurd h (by omega)) | refine oN ?_ | refine oM ?_ ?_ | refine bM ?_ ?_ | refine dR ?_ | intro _))
        (conv => whnf)
        exact ⟨[], [(2, tabO x)], 3, .tup [.agg zero25, .c (.i 2)], ⟨by rfl, trivial, by simp⟩, by simp, .inr ⟨hd, U, hus, .inl ⟨.inl h1, rfl, rfl⟩⟩⟩
      · simp only [Nat.reduceAdd, Nat.reduceSub]
        repeat' (first | exact rfl | ((conv => whnf); first | (refine qX (fun h => ?_) fun h => ?_ <;> try exact absurd h (by omega)) | refine oN ?_ | refine oM ?_ ?_ | refine bM ?_ ?_ | refine dR ?_ | intro _))
        (conv => whnf)
        simp only [Nat.reduceAdd, Nat.reduceSub]
        obtain ⟨hUw, hUs, _⟩ := hus.ok (WOk.of hF) hss
        obtain ⟨_, hs1, hs2⟩ := hmd.small hUw.st.1 hUw.w (fun a ha => (hUw.arc a ha).2.2) hUs h1
        have hgc := great_c ⟨(st.1.length : Nat), 0, st.1.map (finD U), st.2, (st.1.map (finD U)).length + sp, st.2.length + sq⟩ (by simp only; omega) (by simp only [List.length_map]; omega)
        refine cI (hgc) [5, 6] Tryd.call38 ?_
        simp only
        cases hg : greatB st.2 (st.1.map (finD U)) with
        | true =>
          repeat' (first | exact rfl | ((conv => whnf); first | (refine qX (fun h => ?_) fun h => ?_ <;> try exact absurd h (by omega)) | refine oN ?_ | refine oM ?_ ?_ | refine bM ?_ ?_ | refine dR ?_))
          (conv => whnf)
          exact ⟨[], [(2, tabO x)], 3, .tup [.agg zero25, .c (.i 2)], ⟨by rfl, trivial, by simp⟩, by simp, .inr ⟨hd, U, hus, .inl ⟨.inr ⟨h1, st, hmd, hg⟩, rfl, rfl⟩⟩⟩
        | false =>
          repeat' (first | exact rfl | ((conv => whnf); first | (refine qX (fun h => ?_) fun h => ?_ <;> try exact absurd h (by omega)) | refine oN ?_ | refine oM ?_ ?_ | refine bM ?_ ?_ | refine dR ?_))
          (conv => whnf)
          exact ⟨[(3, some 5), (4, some 6)], [(2, tabO x), (3, .arr true 3 .int (st.1.map (finD U)) sp), (4, .arr true 50 .arc st.2 sq)], 5, .tup [.agg [.i (st.1.length : Nat), .i 0, .sl 3 1 0 (st.1.map (finD U)).length ((st.1.map (finD U)).length + sp), .sl 4 5 0 st.2.length (st.2.length + sq)], .c (.i 0)], ⟨by rfl, trivial, by simp⟩, by simp, .inr ⟨hd, U, hus, .inr ⟨h1, st, hmd, hg, sp, sq, rfl, rfl⟩⟩⟩
    · have hd : detE F = 4 := by unfold detE; rw [if_neg (fun c => c h), if_neg hf]
      have hf2 : fineB F = false := by simpa using hf
      refine ctW Tryd.tyOk 7 [] Tryd.func15 rfl (by simp) (by simp) (fr := [(0, fV F)]) rfl ?_
      repeat' (first | exact rfl | ((conv => whnf); first | (refine qX (fun h => ?_) fun h => ?_ <;> try exact absurd h (by omega)) | refine oN ?_ | refine oM ?_ ?_ | refine bM ?_ ?_ | refine dR ?_))
      refine cI (check_c F hl) [0, 1] Tryd.call29 ?_
      rw [h]
      repeat' (first | exact rfl | ((conv => whnf); first | (refine qX (fun h => ?_) fun h => ?_ <;> try exact absurd h (by omega)) | refine oN ?_ | refine oM ?_ ?_ | refine bM ?_ ?_ | refine dR ?_))
      (conv => whnf)
      refine cI (fine_c F (FRng.of hF)) [0, 1] Tryd.call36 ?_
      rw [hf2]
      repeat' (first | exact rfl | ((conv => whnf); first | (refine qX (fun h => ?_) fun h => ?_ <;> try exact absurd h (by omega)) | refine oN ?_ | refine oM ?_ ?_ | refine bM ?_ ?_ | refine dR ?_))
      (conv => whnf)
      exact ⟨[], [(2, tabO x)], 3, .tup [.agg zero25, .c (.i 4)], ⟨by rfl, trivial, by simp⟩, by simp, .inl ⟨by rw [hd]; decide, by rw [hd], rfl⟩⟩
  · have hd : detE F = fstE F := by unfold detE; rw [if_pos h]
    refine ctW Tryd.tyOk 7 [] Tryd.func15 rfl (by simp) (by simp) (fr := [(0, fV F)]) rfl ?_
    repeat' (first | exact rfl | ((conv => whnf); first | (refine qX (fun h => ?_) fun h => ?_ <;> try exact absurd h (by omega)) | refine oN ?_ | refine oM ?_ ?_ | refine bM ?_ ?_ | refine dR ?_))
    refine cI (check_c F hl) [0, 1] Tryd.call29 ?_
    repeat' (first | exact rfl | ((conv => whnf); first | (refine qX (fun h => ?_) fun h => ?_ <;> try exact absurd h (by omega)) | refine oN ?_ | refine oM ?_ ?_ | refine bM ?_ ?_ | refine dR ?_))
    (conv => whnf)
    exact ⟨[], [(2, tabO x)], 3, .tup [.agg zero25, .c (.i (fstE F))], ⟨by rfl, trivial, by simp⟩, by simp, .inl ⟨by rw [hd]; exact h, by rw [hd], rfl⟩⟩
end Go.Fw

/-
  A state's text tells its end and its arcs.
-/
namespace Go.Fw
open Go Go.Proofs
def outA (F : TF) (cls : List Int) (n : Int) : Nat → List (Int × Int × Int)
  | 0 => []
  | k + 1 => if (F.arcs.getD k aD).f = n then outA F cls n k ++ [((F.arcs.getD k aD).i, (F.arcs.getD k aD).w, cls.getD (F.arcs.getD k aD).t.toNat 0)] else outA F cls n k
def encA (x : Int × Int × Int) : List UInt8 := 32 :: (Lib.itoa x.1 ++ 58 :: (Lib.itoa x.2.1 ++ 58 :: Lib.itoa x.2.2))
theorem sgB_out (F : TF) (cls : List Int) (n : Int) : ∀ k, sgB F cls n k = Lib.itoa (F.fin.getD n.toNat 0) ++ (outA F cls n k).flatMap encA
  | 0 => by simp [sgB, outA]
  | k + 1 => by
    unfold sgB outA
    rw [sgB_out F cls n k]
    split
    · rw [List.flatMap_append, ← List.append_assoc]
      simp [encA, sgA]
    · rfl
def NN (x : Int × Int × Int) : Prop := 0 ≤ x.1 ∧ 0 ≤ x.2.1 ∧ 0 ≤ x.2.2
theorem itoa_neg : Lib.itoa (-1) = [45, 49] := by decide +kernel
theorem itoa_no2 {n : Int} (hn : -1 ≤ n) {x : UInt8} (hx : x.toNat < 45 ∨ 57 < x.toNat) : x ∉ Lib.itoa n := fun h => by
  by_cases h0 : 0 ≤ n
  · have := itoa_digit h0 x h
    omega
  · have : n = -1 := by omega
    rw [this, itoa_neg] at h
    simp only [List.mem_cons, List.not_mem_nil, or_false] at h
    rcases h with rfl | rfl
    · revert hx; decide
    · revert hx; decide
theorem itoa_inj2 {n m : Int} (hn : -1 ≤ n) (hm : -1 ≤ m) (h : Lib.itoa n = Lib.itoa m) : n = m := by
  have key : ∀ k : Int, 0 ≤ k → Lib.itoa (-1) ≠ Lib.itoa k := fun k hk e => by
    have h1 : (45 : UInt8) ∈ Lib.itoa k := by rw [← e, itoa_neg]; simp
    have := itoa_digit hk _ h1
    revert this; decide
  by_cases h0 : 0 ≤ n <;> by_cases h1 : 0 ≤ m
  · exact itoa_inj h0 h1 h
  · have : m = -1 := by omega
    subst this; exact absurd h.symm (key n h0)
  · have : n = -1 := by omega
    subst this; exact absurd h (key m h1)
  · omega
theorem sg_inj : ∀ {l m : List (Int × Int × Int)} {a b : Int}, -1 ≤ a → -1 ≤ b → (∀ x ∈ l, NN x) → (∀ x ∈ m, NN x) → Lib.itoa a ++ l.flatMap encA = Lib.itoa b ++ m.flatMap encA → a = b ∧ l = m
  | [], [], a, b, ha, hb, _, _, h => by
    simp only [List.flatMap_nil, List.append_nil] at h
    exact ⟨itoa_inj2 ha hb h, rfl⟩
  | [], y :: m, a, b, ha, hb, _, _, h => by
    exfalso
    simp only [List.flatMap_nil, List.append_nil, List.flatMap_cons, encA] at h
    have : (32 : UInt8) ∈ Lib.itoa a := by rw [h]; simp
    exact itoa_no2 ha (by decide) this
  | x :: l, [], a, b, ha, hb, _, _, h => by
    exfalso
    simp only [List.flatMap_nil, List.append_nil, List.flatMap_cons, encA] at h
    have : (32 : UInt8) ∈ Lib.itoa b := by rw [← h]; simp
    exact itoa_no2 hb (by decide) this
  | x :: l, y :: m, a, b, ha, hb, hl, hm, h => by
    obtain ⟨x1, x2, x3⟩ := hl x (by simp)
    obtain ⟨y1, y2, y3⟩ := hm y (by simp)
    have e : ∀ (z : Int × Int × Int) (t : List (Int × Int × Int)), (z :: t).flatMap encA = 32 :: (Lib.itoa z.1 ++ 58 :: (Lib.itoa z.2.1 ++ 58 :: (Lib.itoa z.2.2 ++ t.flatMap encA))) := fun z t => by simp [encA]
    rw [e, e] at h
    obtain ⟨g1, g2⟩ := cut_at (itoa_no2 ha (by decide)) (itoa_no2 hb (by decide)) h
    obtain ⟨g3, g4⟩ := cut_at (itoa_no x1 (by decide)) (itoa_no y1 (by decide)) g2
    obtain ⟨g5, g6⟩ := cut_at (itoa_no x2 (by decide)) (itoa_no y2 (by decide)) g4
    obtain ⟨g7, g8⟩ := sg_inj (l := l) (m := m) (a := x.2.2) (b := y.2.2) (by omega) (by omega) (fun z hz => hl z (by simp [hz])) (fun z hz => hm z (by simp [hz])) g6
    refine ⟨itoa_inj2 ha hb g1, ?_⟩
    have h1 := itoa_inj x1 y1 g3
    have h2 := itoa_inj x2 y2 g5
    obtain ⟨p, q, r⟩ := x
    obtain ⟨p', q', r'⟩ := y
    simp only at h1 h2 g7
    rw [h1, h2, g7, g8]
theorem outA_nn {F : TF} {cls : List Int} {n : Int} (hF : DFst F) (hc : ∀ j, j < F.st.toNat → 0 ≤ cls.getD j 0) : ∀ k, k ≤ F.arcs.length → ∀ x ∈ outA F cls n k, NN x
  | 0, _ => fun x hx => by cases hx
  | k + 1, hk => by
    have ih := outA_nn (n := n) hF hc k (by omega)
    have hm := getD_mem F.arcs k aD (by omega)
    have h1 := hF.i _ hm
    have h2 := hF.w _ hm
    have h3 := hF.arc _ hm
    have h4 := hc (F.arcs.getD k aD).t.toNat (by omega)
    unfold outA
    split
    · intro x hx
      rcases List.mem_append.1 hx with hx | hx
      · exact ih x hx
      · rw [List.mem_singleton] at hx
        subst hx
        exact ⟨h1.1, h2.1, h4⟩
    · exact ih
theorem ClsOk.iff {F : TF} {cls : List Int} (h : ClsOk F cls) (hF : DFst F) {i j : Nat} (hi : i < F.st.toNat) (hj : j < F.st.toNat) :
    cls.getD i 0 = cls.getD j 0 ↔ F.fin.getD i 0 = F.fin.getD j 0 ∧ outA F cls i F.arcs.length = outA F cls j F.arcs.length := by
  rw [h.eq i j hi hj, sgB_out, sgB_out, Int.toNat_natCast, Int.toNat_natCast]
  have hfl := hF.finl
  constructor
  · intro e
    exact sg_inj (hF.fin _ (getD_mem F.fin i 0 (by omega))).1 (hF.fin _ (getD_mem F.fin j 0 (by omega))).1 (outA_nn hF (fun j hj => (h.bd j hj).1) _ (Nat.le_refl _)) (outA_nn hF (fun j hj => (h.bd j hj).1) _ (Nat.le_refl _)) e
  · rintro ⟨e1, e2⟩
    rw [e1, e2]
end Go.Fw
