/-
  Texts of subsets tell them; numbers of subsets; rows of subsets in a pool.
-/
import Derived.Test.YtlaenllbacalpaaDoorB12
import Derived.Test.YtlaenllbacalpaaDoorB06
import Derived.Test.YtlaenllbacalpaaDoorB10

set_option linter.unusedSimpArgs false
set_option linter.unusedVariables false

namespace Go.Fw
open Go Go.Proofs
def undec (l : List UInt8) : Nat := l.foldl (fun n c => 10 * n + (c.toNat - 48)) 0
theorem u8_toNat {n : Nat} (h : n < 256) : (UInt8.ofNat n).toNat = n := by
  simp [UInt8.toNat_ofNat']
  omega
theorem undec_dec : ∀ (n u : Nat), u ≤ n → undec (Lib.decDigits u) = u
  | 0, u, h => by
    have : u = 0 := by omega
    subst this
    rw [Lib.decDigits, dif_pos (by omega)]
    rfl
  | n + 1, u, h => by
    rw [Lib.decDigits]
    split
    · simp only [undec, List.foldl_cons, List.foldl_nil]
      rw [u8_toNat (by omega)]
      omega
    · have ih := undec_dec n (u / 10) (by omega)
      unfold undec at ih ⊢
      rw [List.foldl_append, ih]
      simp only [List.foldl_cons, List.foldl_nil]
      rw [u8_toNat (by omega)]
      omega
theorem dec_digit : ∀ (n u : Nat), u ≤ n → ∀ c ∈ Lib.decDigits u, 48 ≤ c.toNat ∧ c.toNat ≤ 57
  | 0, u, h => by
    have : u = 0 := by omega
    subst this
    rw [Lib.decDigits, dif_pos (by omega)]
    intro c hc
    simp only [List.mem_singleton] at hc
    subst hc
    rw [u8_toNat (by omega)]
    omega
  | n + 1, u, h => by
    rw [Lib.decDigits]
    split
    · intro c hc
      simp only [List.mem_singleton] at hc
      subst hc
      rw [u8_toNat (by omega)]
      omega
    · intro c hc
      rw [List.mem_append] at hc
      rcases hc with hc | hc
      · exact dec_digit n (u / 10) (by omega) c hc
      · simp only [List.mem_singleton] at hc
        subst hc
        rw [u8_toNat (by omega)]
        omega
theorem itoa_dec {n : Int} (h : 0 ≤ n) : Lib.itoa n = Lib.decDigits n.toNat := by unfold Lib.itoa; rw [if_neg (by omega)]
theorem itoa_digit {n : Int} (h : 0 ≤ n) : ∀ c ∈ Lib.itoa n, 48 ≤ c.toNat ∧ c.toNat ≤ 57 := by
  rw [itoa_dec h]
  exact dec_digit _ _ (Nat.le_refl _)
theorem itoa_inj {n m : Int} (hn : 0 ≤ n) (hm : 0 ≤ m) (h : Lib.itoa n = Lib.itoa m) : n = m := by
  rw [itoa_dec hn, itoa_dec hm] at h
  have := congrArg undec h
  rw [undec_dec _ _ (Nat.le_refl _), undec_dec _ _ (Nat.le_refl _)] at this
  omega
theorem cut_at {α : Type} {x : α} : ∀ {p q r t : List α}, x ∉ p → x ∉ q → p ++ x :: r = q ++ x :: t → p = q ∧ r = t
  | [], [], r, t, _, _, h => by simpa using h
  | [], y :: q, r, t, _, h2, h => by
    simp only [List.nil_append, List.cons_append, List.cons.injEq] at h
    exact absurd (by simp [h.1]) h2
  | y :: p, [], r, t, h1, _, h => by
    simp only [List.nil_append, List.cons_append, List.cons.injEq] at h
    exact absurd (by simp [h.1]) h1
  | y :: p, z :: q, r, t, h1, h2, h => by
    simp only [List.cons_append, List.cons.injEq] at h
    obtain ⟨e1, e2⟩ := cut_at (fun hx => h1 (by simp [hx])) (fun hx => h2 (by simp [hx])) h.2
    exact ⟨by rw [h.1, e1], e2⟩
theorem itoa_no {n : Int} (hn : 0 ≤ n) {x : UInt8} (hx : x.toNat < 48 ∨ 57 < x.toNat) : x ∉ Lib.itoa n := fun h => by
  have := itoa_digit hn x h
  omega
def Pos2 (l : List Duo) : Prop := ∀ e ∈ l, 0 ≤ e.a ∧ 0 ≤ e.b
theorem kyB_inj : ∀ {l m : List Duo}, Pos2 l → Pos2 m → kyB l = kyB m → l = m
  | [], [], _, _, _ => rfl
  | [], e :: m, _, _, h => by
    have := congrArg List.length h
    simp [kyB] at this
  | e :: l, [], _, _, h => by
    have := congrArg List.length h
    simp [kyB] at this
  | e :: l, g :: m, hl, hm, h => by
    have he := hl e (by simp)
    have hg := hm g (by simp)
    have h2 : Lib.itoa e.a ++ 58 :: (Lib.itoa e.b ++ 32 :: kyB l) = Lib.itoa g.a ++ 58 :: (Lib.itoa g.b ++ 32 :: kyB m) := by
      have : ∀ (x : Duo) (t : List Duo), kyB (x :: t) = Lib.itoa x.a ++ 58 :: (Lib.itoa x.b ++ 32 :: kyB t) := fun x t => by simp [kyB]
      rw [← this, ← this]; exact h
    obtain ⟨a1, a2⟩ := cut_at (itoa_no he.1 (by decide)) (itoa_no hg.1 (by decide)) h2
    obtain ⟨b1, b2⟩ := cut_at (itoa_no he.2 (by decide)) (itoa_no hg.2 (by decide)) a2
    have e1 := itoa_inj he.1 hg.1 a1
    have e2 := itoa_inj he.2 hg.2 b1
    rw [kyB_inj (fun x hx => hl x (by simp [hx])) (fun x hx => hm x (by simp [hx])) b2]
    cases e
    cases g
    simp only at e1 e2
    rw [e1, e2]
theorem bs_inj {a b : List UInt8} (h : bs a = bs b) : a = b := by
  have := congrArg ByteArray.data h
  simpa [bs] using this
structure NumD (es : List (ByteArray × Int × Nat)) (L : List (List Duo)) : Prop where
  len : es.length = L.length
  lk : ∀ s, Pos2 s → @lkM EK.str.ty EK.int.ty (EK.instDeq .str) es (bs (kyB s)) = if s ∈ L then some ((L.idxOf s : Nat) : Int) else none
theorem idxOf_in {α : Type} [BEq α] [LawfulBEq α] {l m : List α} {x : α} (h : x ∈ l) : (l ++ m).idxOf x = l.idxOf x := by
  rw [List.idxOf_append, if_pos h]
theorem idxOf_out {α : Type} [BEq α] [LawfulBEq α] {l m : List α} {x : α} (h : x ∉ l) : (l ++ m).idxOf x = m.idxOf x + l.length := by
  rw [List.idxOf_append, if_neg h]
theorem NumD.new {es : List (ByteArray × Int × Nat)} {L : List (List Duo)} (h : NumD es L) {s : List Duo} (hp : Pos2 s) (hs : s ∉ L) (clk : Nat) : NumD (@insM EK.str.ty EK.int.ty (EK.instDeq .str) es clk (bs (kyB s)) ((L.length : Nat) : Int)).1 (L ++ [s]) := by
  have hn : ¬ (@lkM EK.str.ty EK.int.ty (EK.instDeq .str) es (bs (kyB s))).isSome = true := by rw [h.lk s hp, if_neg hs]; simp
  refine ⟨?_, fun t ht => ?_⟩
  · unfold insM
    rw [if_neg hn]
    simp [h.len]
  · rw [lkM_insM]
    by_cases e : bs (kyB t) = bs (kyB s)
    · have e2 := kyB_inj ht hp (bs_inj e)
      subst e2
      rw [if_pos rfl, if_pos (by simp), idxOf_out hs]
      simp
    · have e2 : t ≠ s := fun c => e (by rw [c])
      rw [if_neg e, h.lk t ht]
      by_cases hx : t ∈ L
      · rw [if_pos hx, if_pos (by simp [hx]), idxOf_in hx]
      · rw [if_neg hx, if_neg (by simp [hx, e2])]
structure TabD (m : List (Addr × List Duo × Nat)) (rows : List Sli) (L : List (List Duo)) : Prop where
  len : rows.length = L.length
  hd : ∀ j, j < L.length → Hd m (rows.getD j EK.sli.dflt)
  row : ∀ j, j < L.length → rowA m (rows.getD j EK.sli.dflt).a = L.getD j []
theorem TabD.nil : TabD [] [] [] := ⟨rfl, fun j h => absurd h (Nat.not_lt_zero _), fun j h => absurd h (Nat.not_lt_zero _)⟩
theorem TabD.frz {m m' : List (Addr × List Duo × Nat)} {rows : List Sli} {L : List (List Duo)} (h : TabD m rows L) {s : List Duo} {sp cap : Nat} {y : Sli} (hf : Frz m s sp s.length cap m' y) : TabD m' rows L := by
  cases hf with
  | nil _ => exact h
  | @own a hn _ =>
    have hk : ∀ b y, lkA m b = some y → lkA ((a, s, sp) :: m) b = some y := by
      intro b y hb
      unfold lkA
      split
      · rename_i e; rw [e, hb] at hn; cases hn
      · exact hb
    refine ⟨h.len, fun j hj => ?_, fun j hj => ?_⟩
    · have h2 := h.hd j hj
      unfold Hd at h2 ⊢
      split
      · rename_i e; rw [e] at h2; exact h2
      · rename_i b e
        rw [e] at h2
        simp only at h2 ⊢
        cases hl : lkA m b with
        | none => rw [hl] at h2; exact h2.elim
        | some y => rw [hl] at h2; rw [hk b y hl]; exact h2
    · rw [← h.row j hj]
      have h2 := h.hd j hj
      unfold Hd at h2
      split at h2
      · rename_i e; rw [e]; rfl
      · rename_i b e
        rw [e]
        cases hl : lkA m b with
        | none => rw [hl] at h2; exact h2.elim
        | some y =>
          unfold rowA
          simp only [hk b y hl, hl]
theorem TabD.add {m : List (Addr × List Duo × Nat)} {rows : List Sli} {L : List (List Duo)} (h : TabD m rows L) {s : List Duo} {y : Sli} (hy : Hd m y) (hr : rowA m y.a = s) : TabD m (rows ++ [y]) (L ++ [s]) := by
  have hg : ∀ j, j < L.length → (rows ++ [y]).getD j EK.sli.dflt = rows.getD j EK.sli.dflt := fun j hj => by
    simp only [List.getD]
    rw [List.getElem?_append_left (by rw [h.len]; exact hj)]
  have hg2 : (rows ++ [y]).getD L.length EK.sli.dflt = y := by
    simp only [List.getD]
    rw [List.getElem?_append_right (by rw [h.len]; exact Nat.le_refl _), h.len]
    simp
  refine ⟨by simp [h.len], fun j hj => ?_, fun j hj => ?_⟩
  · simp only [List.length_append, List.length_cons, List.length_nil] at hj
    by_cases e : j = L.length
    · subst e; rw [hg2]; exact hy
    · rw [hg j (by omega)]; exact h.hd j (by omega)
  · simp only [List.length_append, List.length_cons, List.length_nil] at hj
    by_cases e : j = L.length
    · subst e
      rw [hg2, hr]
      simp [List.getD]
    · rw [hg j (by omega), h.row j (by omega)]
      simp only [List.getD]
      rw [List.getElem?_append_left (by omega)]
theorem frz_hd {m m' : List (Addr × List Duo × Nat)} {s : List Duo} {sp cap : Nat} {y : Sli} (hf : Frz m s sp s.length cap m' y) (hc : cap ≤ s.length + sp) (hne : s ≠ []) : Hd m' y ∧ rowA m' y.a = s ∧ y.n = s.length ∧ y.c = cap := by
  cases hf with
  | nil h => exact absurd h hne
  | @own a hn _ =>
    have : lkA ((a, s, sp) :: m) a = some (s, sp) := by unfold lkA; rw [if_pos rfl]
    refine ⟨?_, ?_, rfl, rfl⟩
    · unfold Hd
      simp only [this]
      exact ⟨trivial, hc⟩
    · unfold rowA
      simp only [this]
end Go.Fw

namespace Go.Fw
open Go Go.Proofs
def numL (L : List (List Duo)) (s : List Duo) : List (List Duo) := if s ∈ L then L else L ++ [s]
theorem finS_bd {F : TF} {B : Int} (hfin : ∀ n ∈ F.fin, -1 ≤ n ∧ n ≤ 1000000000) (hB : 0 ≤ B) : ∀ (l : List Duo), (∀ e ∈ l, (0 ≤ e.a ∧ e.a < F.fin.length) ∧ 0 ≤ e.b ∧ e.b ≤ B) → ∀ r, -1 ≤ r ∧ r ≤ B + 1000000000 → -1 ≤ l.foldl (finS F) r ∧ l.foldl (finS F) r ≤ B + 1000000000
  | [], _, r, hr => hr
  | e :: l, hl, r, hr => by
    have he := hl e (by simp)
    have hf := hfin _ (getD_mem F.fin e.a.toNat 0 (by omega))
    refine finS_bd hfin hB l (fun x hx => hl x (by simp [hx])) _ ?_
    unfold finS
    split <;> omega
abbrev hpDo (F : TF) (L : List (List Duo)) (es : List (ByteArray × Int × Nat)) (clk : Nat) (rows : List Sli) (m : List (Addr × List Duo × Nat)) (spr spf nr cr : Nat) (il jf ir : Nat) (x : Obj) : List (Nat × SO) := [(2, .box 79 (dC F il rows.length (rows.length + spr) 0 0 jf (L.map (finD F)).length ((L.map (finD F)).length + spf) ir nr cr)), (4, .map .str .int es clk), (il, .arr true 82 .sli rows spr), (6, .pool 80 .duo m), (jf, .arr true 3 .int (L.map (finD F)) spf), (9, tabO x)]
section
variable (F : TF) (hF : WOk F) (hst1 : F.st ≤ 1000) (x : Obj) (hx : TabX x) (L : List (List Duo)) (es : List (ByteArray × Int × Nat)) (clk : Nat) (rows : List Sli) (m : List (Addr × List Duo × Nat)) (spr spf nr cr : Nat) (s : List Duo) (ya : Option Addr) (yc : Nat) (B : Int) (hB : 0 ≤ B ∧ B ≤ 1000000000000) (hs : SOk F B s) (hnum : NumD es L) (htab : TabD m rows L) (hy : Hd m ⟨ya, s.length, yc⟩) (hr : rowA m ya = s) (hL : L.length ≤ 100000)
include hF hst1 hx hB hs hnum htab hy hr hL
omit hy hL in
set_option maxHeartbeats 16000000 in
set_option maxRecDepth 20000 in
theorem numberD_in (hin : s ∈ L) :
    Ct Tryd.prog 65 [.c (.ptr 2 0), .c (.h ⟨ya, s.length, yc⟩)] [] ((0, .arr false 3 .int F.fin 0) :: hpDo F L es clk rows m spr spf nr cr 5 7 8 x) 10
    (fun v t => ∃ es' clk' rows' spr' spf', NumD es' L ∧ TabD m rows' L ∧ v = .i ((L.idxOf s : Nat) : Int) ∧ t = ⟨[], hpDo F L es' clk' rows' m spr' spf' nr cr 10 11 8 x, 12⟩) := by
  have hst := hF.st
  have hsl := hs.len
  have hp : Pos2 s := fun e he => by have := hs.rng e he; omega
  have hlk := hnum.lk s hp
  have hes := hnum.len
  rw [if_pos hin] at hlk
  have hdok : DOk 10000000000000 s := ⟨by omega, fun e he => by have := hs.rng e he; omega⟩
  refine ctW Tryd.tyOk 13 [47, 48, 49] Tryd.func65 rfl (by simp) (by simp) (fr := [(0, .c (.ptr 2 0)), (1, .c (.h ⟨ya, s.length, yc⟩))]) rfl ?_
  repeat' (first | exact rfl | ((conv => whnf); first | (refine qX (fun h => ?_) fun h => ?_ <;> try exact absurd h (by omega)) | refine oN ?_ | refine oM ?_ ?_ | refine bM ?_ ?_ | refine dR ?_))
  (conv => whnf)
  refine callRow 6 [true] Tryd.call87 (by simp) ?_
  (conv => whnf)
  have hks := key_c x hx (rowA m ya) yc (by rw [hr]; exact hdok)
  rw [hr] at hks
  simp only [hr]
  refine callF (hks) [10, 9] Tryd.call87 rfl (by simp [rowsO, hr]) (by simp [rowsO, hr]) (by simp) ?_
  rintro _ _ ⟨rfl, rfl⟩
  repeat' (first | exact rfl | ((conv => whnf); first | (refine qX (fun h => ?_) fun h => ?_ <;> try exact absurd h (by omega)) | refine oN ?_ | refine oM ?_ ?_ | refine bM ?_ ?_ | refine dR ?_ | intro _))
  · (conv => whnf)
    refine ⟨[(10, some 5), (11, some 7)], hpDo F L es clk rows m spr spf nr cr 10 11 8 x, 12, .i ((L.idxOf s : Nat) : Int), ⟨by rfl, trivial, by simp⟩, ?_, es, clk, rows, spr, spf, hnum, htab, rfl, rfl⟩
    simp only [eqV, eqA, eqC, hlk, Option.getD_some]
  all_goals (rw [hlk] at h; cases h)
set_option maxHeartbeats 16000000 in
set_option maxRecDepth 20000 in
theorem numberD_new (hin : s ∉ L) :
    Ct Tryd.prog 65 [.c (.ptr 2 0), .c (.h ⟨ya, s.length, yc⟩)] [] ((0, .arr false 3 .int F.fin 0) :: hpDo F L es clk rows m spr spf nr cr 5 7 8 x) 10
    (fun v t => ∃ es' clk' rows' spr' spf', NumD es' (L ++ [s]) ∧ TabD m rows' (L ++ [s]) ∧ v = .i (((L ++ [s]).idxOf s : Nat) : Int) ∧ t = ⟨[], hpDo F (L ++ [s]) es' clk' rows' m spr' spf' nr cr 10 11 8 x, 12⟩) := by
  have hst := hF.st
  have hsl := hs.len
  have hp : Pos2 s := fun e he => by have := hs.rng e he; omega
  have hlk := hnum.lk s hp
  have hes := hnum.len
  have htl := htab.len
  have hfl := hF.finl
  have hnew := hnum.new hp hin clk
  have htn := htab.add hy hr
  rw [← hes] at hnew
  rw [if_neg hin] at hlk
  have hidx : (L ++ [s]).idxOf s = es.length := by rw [idxOf_out hin, hes]; simp
  have hdok : DOk 10000000000000 s := ⟨by omega, fun e he => by have := hs.rng e he; omega⟩
  refine ctW Tryd.tyOk 13 [47, 48, 49] Tryd.func65 rfl (by simp) (by simp) (fr := [(0, .c (.ptr 2 0)), (1, .c (.h ⟨ya, s.length, yc⟩))]) rfl ?_
  repeat' (first | exact rfl | ((conv => whnf); first | (refine qX (fun h => ?_) fun h => ?_ <;> try exact absurd h (by omega)) | refine oN ?_ | refine oM ?_ ?_ | refine bM ?_ ?_ | refine dR ?_))
  (conv => whnf)
  refine callRow 6 [true] Tryd.call87 (by simp) ?_
  (conv => whnf)
  have hks := key_c x hx (rowA m ya) yc (by rw [hr]; exact hdok)
  rw [hr] at hks
  simp only [hr]
  refine callF (hks) [10, 9] Tryd.call87 rfl (by simp [rowsO, hr]) (by simp [rowsO, hr]) (by simp) ?_
  rintro _ _ ⟨rfl, rfl⟩
  simp only [lenN, Nat.reduceAdd, Nat.reduceSub]
  repeat' (first | exact rfl | ((conv => whnf); first | (refine qX (fun h => ?_) fun h => ?_ <;> try exact absurd h (by omega)) | refine oN ?_ | refine oM ?_ ?_ | refine bM ?_ ?_ | refine dR ?_ | intro _))
  · rw [hlk] at h; cases h
  · rename_i spr2
    have hap : lOp.appL (sub rows 0 rows.length) (sub [(⟨ya, s.length, yc⟩ : Sli)] 0 1) = rows ++ [⟨ya, s.length, yc⟩] := app_one rows rows.length _ rfl
    simp only [Nat.reduceAdd, Nat.reduceSub]
    refine loopI (fun k : Nat => ⟨[(0, .c (.ptr 2 0)), (8, .i es.length), (9, .i ((s.take k).foldl (finS F) (-1))), (47, .c (.h ⟨ya, s.length, yc⟩)), (48, .i s.length), (49, .i k)], (0, .arr false 3 .int F.fin 0) :: [(2, .box 79 (dC F 10 (rows ++ [(⟨ya, s.length, yc⟩ : Sli)]).length ((rows ++ [(⟨ya, s.length, yc⟩ : Sli)]).length + spr2) 0 0 7 (L.map (finD F)).length ((L.map (finD F)).length + spf) 8 nr cr)), (4, .map .str .int (@insM EK.str.ty EK.int.ty (EK.instDeq .str) es clk (bs (kyB s)) (es.length : Int)).1 (@insM EK.str.ty EK.int.ty (EK.instDeq .str) es clk (bs (kyB s)) (es.length : Int)).2), (10, .arr true 82 .sli (rows ++ [(⟨ya, s.length, yc⟩ : Sli)]) spr2), (6, .pool 80 .duo m), (7, .arr true 3 .int (L.map (finD F)) spf), (9, tabO x)], 11⟩)
      (fun k => k ≤ s.length) (fun k => s.length - k) 0 [(10, some 12)] ⟨by rfl, ?_, ?_⟩ (Nat.zero_le _) ?_
    · simp
    · simp [hap]
    · intro k hk
      have hbk := finS_bd hF.fin hB.1 (s.take k) (fun e he => by have := hs.rng e (List.mem_of_mem_take he); omega) (-1) (by omega)
      (conv => whnf)
      refine condP_dec (fun hk2 => ?_) (fun hk2 => ?_)
      · have e0 : 0 + (k : Int).toNat = k := by omega
        have hks := foldl_take (finS F) (-1) s ⟨0, 0⟩ k (by omega)
        have hxr := hs.rng _ (getD_mem s k ⟨0, 0⟩ (by omega))
        have hrl : (rowA m ya).length = s.length := by rw [hr]
        have hee : ((rowA m (⟨ya, s.length, yc⟩ : Sli).a).getD (k : Int).toNat EK.duo.dflt) = s.getD k ⟨0, 0⟩ := by
          show (rowA m ya).getD (k : Int).toNat ⟨0, 0⟩ = _
          rw [hr, Int.toNat_natCast]
        have hxr1 : (0 ≤ ((rowA m (⟨ya, s.length, yc⟩ : Sli).a).getD (k : Int).toNat EK.duo.dflt).a ∧ ((rowA m (⟨ya, s.length, yc⟩ : Sli).a).getD (k : Int).toNat EK.duo.dflt).a < F.fin.length) ∧ 0 ≤ ((rowA m (⟨ya, s.length, yc⟩ : Sli).a).getD (k : Int).toNat EK.duo.dflt).b ∧ ((rowA m (⟨ya, s.length, yc⟩ : Sli).a).getD (k : Int).toNat EK.duo.dflt).b ≤ B := by rw [hee]; omega
        have hff : -1 ≤ F.fin.getD (0 + ((rowA m (⟨ya, s.length, yc⟩ : Sli).a).getD (k : Int).toNat EK.duo.dflt).a.toNat) EK.int.dflt ∧ F.fin.getD (0 + ((rowA m (⟨ya, s.length, yc⟩ : Sli).a).getD (k : Int).toNat EK.duo.dflt).a.toNat) EK.int.dflt ≤ 1000000000 := hF.fin _ (getD_mem _ _ _ (by omega))
        have hks1 : (s.take (k + 1)).foldl (finS F) (-1) = if F.fin.getD (0 + ((rowA m (⟨ya, s.length, yc⟩ : Sli).a).getD (k : Int).toNat EK.duo.dflt).a.toNat) EK.int.dflt ≠ -1 ∧ ((s.take k).foldl (finS F) (-1) = -1 ∨ ((rowA m (⟨ya, s.length, yc⟩ : Sli).a).getD (k : Int).toNat EK.duo.dflt).b + F.fin.getD (0 + ((rowA m (⟨ya, s.length, yc⟩ : Sli).a).getD (k : Int).toNat EK.duo.dflt).a.toNat) EK.int.dflt < (s.take k).foldl (finS F) (-1)) then ((rowA m (⟨ya, s.length, yc⟩ : Sli).a).getD (k : Int).toNat EK.duo.dflt).b + F.fin.getD (0 + ((rowA m (⟨ya, s.length, yc⟩ : Sli).a).getD (k : Int).toNat EK.duo.dflt).a.toNat) EK.int.dflt else (s.take k).foldl (finS F) (-1) := by
          rw [hks, hee, Nat.zero_add]
          rfl
        clear hks hxr
        generalize hrr : (s.take k).foldl (finS F) (-1) = r at *
        repeat' (first | exact rfl | ((conv => whnf); first | (refine qX (fun h => ?_) fun h => ?_ <;> try exact absurd h (by omega)) | refine oN ?_ | refine oM ?_ ?_ | refine bM ?_ ?_ | refine dR ?_))
        · rename_i h2
          rw [if_pos ⟨h2, .inl h⟩] at hks1
          (conv => whnf)
          refine ⟨k + 1, [], ⟨by rfl, ?_, ?_⟩, by omega, by omega⟩
          · simp [hks1]
          · simp
        · rename_i h2 h3
          rw [if_pos ⟨h2, .inr h⟩] at hks1
          (conv => whnf)
          refine ⟨k + 1, [], ⟨by rfl, ?_, ?_⟩, by omega, by omega⟩
          · simp [hks1]
          · simp
        · rename_i h2 h3
          rw [if_neg (fun c => c.2.elim h3 h)] at hks1
          (conv => whnf)
          refine ⟨k + 1, [], ⟨by rfl, ?_, ?_⟩, by omega, by omega⟩
          · simp [hks1]
          · simp
        · rw [if_neg (fun c => c.1 h)] at hks1
          (conv => whnf)
          refine ⟨k + 1, [], ⟨by rfl, ?_, ?_⟩, by omega, by omega⟩
          · simp [hks1]
          · simp
      · have e : k = s.length := by omega
        subst e
        rw [List.take_length] at hbk ⊢
        have hfd : s.foldl (finS F) (-1) = finD F s := rfl
        rw [hfd] at hbk ⊢
        repeat' (first | exact rfl | ((conv => whnf); first | (refine qX (fun h => ?_) fun h => ?_ <;> try exact absurd h (by omega)) | refine oN ?_ | refine oM ?_ ?_ | refine bM ?_ ?_ | refine dR ?_ | intro _))
        (conv => whnf)
        rename_i spf2
        refine ⟨[(11, some 12)], hpDo F (L ++ [s]) (@insM EK.str.ty EK.int.ty (EK.instDeq .str) es clk (bs (kyB s)) (es.length : Int)).1 (@insM EK.str.ty EK.int.ty (EK.instDeq .str) es clk (bs (kyB s)) (es.length : Int)).2 (rows ++ [(⟨ya, s.length, yc⟩ : Sli)]) m spr2 spf2 nr cr 10 11 8 x, 12, .i (es.length : Int), ⟨by rfl, trivial, ?_⟩, by simp, _, _, _, spr2, spf2, hnew, htn, by rw [hidx], rfl⟩
        simp [List.map_append]
        simp [app_one]
end
end Go.Fw

namespace Go.Fw
open Go Go.Proofs
def bgnF (F : TF) : Nat → Nat → List Duo → Nat
  | 0, _, _ => 1
  | f + 1, m, s => (List.range 9).foldl (fun (n c : Nat) => if n ≤ m ∧ sbB F s ((c : Int) + 1) ≠ -1 then n + bgnF F f (m - n) (sbS F s ((c : Int) + 1)) else n) 1
def bgnP (F : TF) (f m : Nat) (s : List Duo) (k : Nat) : Nat := (List.range k).foldl (fun (n c : Nat) => if n ≤ m ∧ sbB F s ((c : Int) + 1) ≠ -1 then n + bgnF F f (m - n) (sbS F s ((c : Int) + 1)) else n) 1
theorem bgnP_succ (F : TF) (f m : Nat) (s : List Duo) (k : Nat) : bgnP F f m s (k + 1) = if bgnP F f m s k ≤ m ∧ sbB F s ((k : Int) + 1) ≠ -1 then bgnP F f m s k + bgnF F f (m - bgnP F f m s k) (sbS F s ((k : Int) + 1)) else bgnP F f m s k := by
  unfold bgnP
  rw [List.range_succ, List.foldl_append]
  rfl
theorem bgnP_stop {F : TF} {f m : Nat} {s : List Duo} {k : Nat} (h : m < bgnP F f m s k) : ∀ j, bgnP F f m s (k + j) = bgnP F f m s k
  | 0 => rfl
  | j + 1 => by
    have ih := bgnP_stop h j
    rw [show k + (j + 1) = (k + j) + 1 by omega, bgnP_succ, ih, if_neg (fun c => by omega)]
theorem bgnF_le (F : TF) : ∀ (f m : Nat) (s : List Duo), bgnF F f m s ≤ m + 1
  | 0, m, s => by unfold bgnF; omega
  | f + 1, m, s => by
    show bgnP F f m s 9 ≤ m + 1
    have : ∀ k, bgnP F f m s k ≤ m + 1 := by
      intro k
      induction k with
      | zero => simp [bgnP]
      | succ k ih =>
        rw [bgnP_succ]
        split
        · have := bgnF_le F f (m - bgnP F f m s k) (sbS F s ((k : Int) + 1))
          omega
        · exact ih
    exact this 9
theorem bgnP_le (F : TF) (f m : Nat) (s : List Duo) (k : Nat) : bgnP F f m s k ≤ m + 1 := by
  induction k with
  | zero => simp [bgnP]
  | succ k ih =>
    rw [bgnP_succ]
    split
    · have := bgnF_le F f (m - bgnP F f m s k) (sbS F s ((k : Int) + 1))
      omega
    · exact ih
theorem bgnP_pos (F : TF) (f m : Nat) (s : List Duo) (k : Nat) : 1 ≤ bgnP F f m s k := by
  induction k with
  | zero => simp [bgnP]
  | succ k ih =>
    rw [bgnP_succ]
    split <;> omega
set_option maxHeartbeats 16000000 in
set_option maxRecDepth 20000 in
theorem beg_c (F : TF) (hF : WOk F) (nl cl nf cf nr cr : Nat) (ost osr : Int) : ∀ (f m : Nat) (s : List Duo) (B : Int) (cap : Nat), m < f → f ≤ 1000 → 0 ≤ B → B + f * 1000000000 ≤ 10000000000000 → SOk F B s →
    Ct Tryd.prog 64 [.c (.ptr 2 0), .c (.sl 3 2 0 s.length cap), .i m] [] [(1, .arr false 50 .arc F.arcs 0), (2, .box 79 (dC F 5 nl cl ost osr 7 nf cf 8 nr cr)), (3, .arr false 80 .duo s 0)] 9
    (fun v st => v = .i (bgnF F f m s) ∧ st = ⟨[], [(2, .box 79 (dC F 5 nl cl ost osr 7 nf cf 8 nr cr))], 9⟩) := by
  intro f
  induction f with
  | zero => intro m s B cap hm; omega
  | succ f ih =>
    intro m s B cap hm hf hB0 hB hs
    have hst := hF.st
    have hsl := hs.len
    have hBe : B ≤ 10000000000000 := by omega
    refine ctW Tryd.tyOk 11 [] Tryd.func64 rfl (by simp) (by simp) (fr := [(0, .c (.ptr 2 0)), (1, .c (.sl 3 2 0 s.length cap)), (2, .i m)]) rfl ?_
    repeat' (first | exact rfl | ((conv => whnf); first | (refine qX (fun h => ?_) fun h => ?_ <;> try exact absurd h (by omega)) | refine oN ?_ | refine oM ?_ ?_ | refine bM ?_ ?_ | refine dR ?_))
    (conv => whnf)
    refine loopI (fun k : Nat => ⟨[(0, .c (.ptr 2 0)), (1, .c (.sl 3 2 0 s.length cap)), (2, .i m), (7, .i (bgnP F f m s k)), (8, .i ((k : Int) + 1))], [(1, .arr false 50 .arc F.arcs 0), (2, .box 79 (dC F 5 nl cl ost osr 7 nf cf 8 nr cr)), (3, .arr false 80 .duo s 0)], 9⟩)
      (fun k => k ≤ 9) (fun k => 9 - k) 0 [] ⟨by rfl, ?_, ?_⟩ (Nat.zero_le _) ?_
    · simp [bgnP]
    · simp
    · intro k hk
      have hle := bgnP_le F f m s k
      have hpo := bgnP_pos F f m s k
      have hks := bgnP_succ F f m s k
      have hsk := sbS_ok (c := (k : Int) + 1) hs hB0 hst.1 hF.w
      have hend : ¬ (k ≤ 8 ∧ bgnP F f m s k ≤ m) → bgnP F f m s k = bgnF F (f + 1) m s := by
        intro hc
        show _ = bgnP F f m s 9
        by_cases e : k = 9
        · rw [e]
        · rw [← bgnP_stop (by omega : m < bgnP F f m s k) (9 - k), show k + (9 - k) = 9 by omega]
      generalize hn : bgnP F f m s k = n at hle hpo hks hend ⊢
      repeat' (first | exact rfl | ((conv => whnf); first | (refine qX (fun h => ?_) fun h => ?_ <;> try exact absurd h (by omega)) | refine oN ?_ | refine oM ?_ ?_ | refine bM ?_ ?_ | refine dR ?_))
      · rename_i h2
        have hmn : ((m - n : Nat) : Int) = (m : Int) - n := by omega
        (conv => whnf)
        refine cF (on2_c F hF s B ⟨hB0, hBe⟩ hs cap ((k : Int) + 1) nl cl nf cf nr cr ost osr) [0, 1, 2, 3, 4, 5, 6, 7, 8] Tryd.call66 ?_
        rintro _ _ ⟨sp, rfl, rfl⟩
        generalize hsb : sbS F s ((k : Int) + 1) = sb at *
        generalize hbb : sbB F s ((k : Int) + 1) = bb at *
        repeat' (first | exact rfl | ((conv => whnf); first | (refine qX (fun h => ?_) fun h => ?_ <;> try exact absurd h (by omega)) | refine oN ?_ | refine oM ?_ ?_ | refine bM ?_ ?_ | refine dR ?_ | intro _))
        · rw [if_pos ⟨by omega, h⟩] at hks
          have hb := bgnF_le F f (m - n) sb
          (conv => whnf)
          refine callF (ih (m - n) sb (B + 1000000000) (sb.length + sp) (by omega) (by omega) (by omega) (by omega) hsk.1) [0, 1, 2, 9, 4, 5, 6, 7, 8] Tryd.call64 rfl (by simp [hmn]) (by simp [hmn]) (by simp) ?_
          rintro _ _ ⟨rfl, rfl⟩
          repeat' (first | exact rfl | ((conv => whnf); first | (refine qX (fun h => ?_) fun h => ?_ <;> try exact absurd h (by omega)) | refine oN ?_ | refine oM ?_ ?_ | refine bM ?_ ?_ | refine dR ?_ | intro _))
          (conv => whnf)
          refine ⟨k + 1, [], ⟨by rfl, ?_, ?_⟩, by omega, by omega⟩
          · simp [hks]
          · simp
        · rw [if_neg (fun c => c.2 h)] at hks
          (conv => whnf)
          refine ⟨k + 1, [], ⟨by rfl, ?_, ?_⟩, by omega, by omega⟩
          · simp [hks]
          · simp
      all_goals
        have hx := hend (by omega)
        (conv => whnf)
        refine ⟨[], [(2, .box 79 (dC F 5 nl cl ost osr 7 nf cf 8 nr cr))], 9, .i (bgnF F (f + 1) m s), ⟨by rfl, trivial, by simp⟩, by simp [hx], rfl, rfl⟩
end Go.Fw

/-
  One way for each word: all that is made; there are no more states than beginnings.
-/
namespace Go.Fw
open Go Go.Proofs
abbrev DS := List (List Duo) × List Arc
def stD (U : TF) (i : Nat) (st : DS) (c : Int) : DS :=
  if sbB U (st.1.getD i []) c = -1 then st
  else (numL st.1 (sbS U (st.1.getD i []) c), st.2 ++ [⟨(i : Nat), c, c, ((numL st.1 (sbS U (st.1.getD i []) c)).idxOf (sbS U (st.1.getD i []) c) : Nat), sbB U (st.1.getD i []) c⟩])
def rowP (U : TF) (i : Nat) (st : DS) (k : Nat) : DS := (List.range k).foldl (fun (st : DS) (c : Nat) => stD U i st ((c : Int) + 1)) st
def rowsD (U : TF) : Nat → DS
  | 0 => ([[⟨U.start, 0⟩]], [])
  | i + 1 => rowP U i (rowsD U i) 9
theorem rowP_succ (U : TF) (i : Nat) (st : DS) (k : Nat) : rowP U i st (k + 1) = stD U i (rowP U i st k) ((k : Int) + 1) := by
  unfold rowP
  rw [List.range_succ, List.foldl_append]
  rfl
def MDone (U : TF) (st : DS) : Prop := ∃ k, rowsD U k = st ∧ k = st.1.length
def treeL (U : TF) : Nat → List Duo → List (List Duo)
  | 0, s => [s]
  | f + 1, s => s :: (List.range 9).flatMap fun (c : Nat) => if sbB U s ((c : Int) + 1) ≠ -1 then treeL U f (sbS U s ((c : Int) + 1)) else []
theorem tree_self (U : TF) (f : Nat) (s : List Duo) : s ∈ treeL U f s := by
  cases f <;> simp [treeL]
theorem bgnP_mono {F : TF} {f m : Nat} {s : List Duo} {j : Nat} : ∀ {k : Nat}, j ≤ k → bgnP F f m s j ≤ bgnP F f m s k
  | 0, h => by rw [show j = 0 by omega]; exact Nat.le_refl _
  | k + 1, h => by
    by_cases e : j = k + 1
    · rw [e]; exact Nat.le_refl _
    · refine Nat.le_trans (bgnP_mono (show j ≤ k by omega)) ?_
      rw [bgnP_succ]
      split <;> omega
theorem tree_ok (U : TF) : ∀ (f m : Nat) (s : List Duo), m < f → bgnF U f m s ≤ m → (treeL U f s).length = bgnF U f m s ∧ ∀ t ∈ treeL U f s, ∀ c : Nat, c < 9 → sbB U t ((c : Int) + 1) ≠ -1 → sbS U t ((c : Int) + 1) ∈ treeL U f s
  | 0, m, s, h, _ => by omega
  | f + 1, m, s, h, hb => by
    have hb9 : bgnP U f m s 9 ≤ m := hb
    have hpo := bgnP_pos U f m s
    have hch : ∀ c : Nat, c < 9 → sbB U s ((c : Int) + 1) ≠ -1 → bgnP U f m s c ≤ m ∧ bgnF U f (m - bgnP U f m s c) (sbS U s ((c : Int) + 1)) ≤ m - bgnP U f m s c ∧ bgnP U f m s (c + 1) = bgnP U f m s c + bgnF U f (m - bgnP U f m s c) (sbS U s ((c : Int) + 1)) := by
      intro c hc hs
      have h1 := bgnP_mono (F := U) (f := f) (m := m) (s := s) (j := c) (k := 9) (by omega)
      have h2 := bgnP_mono (F := U) (f := f) (m := m) (s := s) (j := c + 1) (k := 9) (by omega)
      have h3 := bgnP_succ U f m s c
      rw [if_pos ⟨by omega, hs⟩] at h3
      exact ⟨by omega, by omega, h3⟩
    have hlen : ∀ k, k ≤ 9 → ((List.range k).flatMap fun (c : Nat) => if sbB U s ((c : Int) + 1) ≠ -1 then treeL U f (sbS U s ((c : Int) + 1)) else []).length + 1 = bgnP U f m s k := by
      intro k
      induction k with
      | zero => intro _; simp [bgnP]
      | succ k ih =>
        intro hk
        rw [List.range_succ, List.flatMap_append, List.length_append]
        have := ih (by omega)
        by_cases hs : sbB U s ((k : Int) + 1) ≠ -1
        · obtain ⟨g1, g2, g3⟩ := hch k (by omega) hs
          have hi := (tree_ok U f (m - bgnP U f m s k) (sbS U s ((k : Int) + 1)) (by have := hpo k; omega) g2).1
          rw [g3]
          simp only [List.flatMap_cons, List.flatMap_nil, List.append_nil]
          rw [if_pos hs, hi]
          omega
        · rw [bgnP_succ, if_neg (fun c => hs c.2)]
          simp only [List.flatMap_cons, List.flatMap_nil, List.append_nil]
          rw [if_neg hs]
          simpa using this
    refine ⟨?_, fun t ht c hc hcb => ?_⟩
    · have := hlen 9 (Nat.le_refl _)
      show (s :: _).length = bgnP U f m s 9
      rw [List.length_cons]
      exact this
    · have hin : ∀ c : Nat, c < 9 → sbB U s ((c : Int) + 1) ≠ -1 → ∀ t ∈ treeL U f (sbS U s ((c : Int) + 1)), t ∈ treeL U (f + 1) s := by
        intro c hc hs t ht
        unfold treeL
        rw [List.mem_cons, List.mem_flatMap]
        exact .inr ⟨c, List.mem_range.2 hc, by rw [if_pos hs]; exact ht⟩
      unfold treeL at ht
      rw [List.mem_cons, List.mem_flatMap] at ht
      rcases ht with rfl | ⟨d, hd, ht⟩
      · exact hin c hc hcb _ (tree_self _ _ _)
      · have hd := List.mem_range.1 hd
        by_cases hs : sbB U s ((d : Int) + 1) ≠ -1
        · rw [if_pos hs] at ht
          obtain ⟨g1, g2, g3⟩ := hch d hd hs
          exact hin d hd hs _ ((tree_ok U f (m - bgnP U f m s d) (sbS U s ((d : Int) + 1)) (by have := hpo d; omega) g2).2 t ht c hc hcb)
        · rw [if_neg hs] at ht
          cases ht
theorem nd_le {α : Type} : ∀ {l m : List α}, l.Nodup → (∀ x ∈ l, x ∈ m) → l.length ≤ m.length
  | [], m, _, _ => Nat.zero_le _
  | x :: l, m, hn, hs => by
    rw [List.nodup_cons] at hn
    obtain ⟨m1, m2, rfl⟩ := List.append_of_mem (hs x (by simp))
    have : l.length ≤ (m1 ++ m2).length := nd_le hn.2 fun y hy => by
      have h := hs y (by simp [hy])
      rw [List.mem_append, List.mem_cons] at h
      rw [List.mem_append]
      rcases h with h | rfl | h
      · exact .inl h
      · exact absurd hy hn.1
      · exact .inr h
    simp only [List.length_append, List.length_cons] at this ⊢
    omega
theorem sbR_key {F : TF} (hF : ∀ a ∈ F.arcs, 0 ≤ a.t ∧ a.t < F.st) {s : List Duo} {c : Int} : ∀ t v, (sbR F s c).1 t = some v → 0 ≤ t ∧ t < F.st := by
  have h1 : ∀ (l : List Arc), (∀ a ∈ l, 0 ≤ a.t ∧ a.t < F.st) → ∀ (x : Duo) (st : CM × Int), (∀ t v, st.1 t = some v → 0 ≤ t ∧ t < F.st) → ∀ t v, (l.foldl (sbA c x) st).1 t = some v → 0 ≤ t ∧ t < F.st := by
    intro l
    induction l with
    | nil => intro _ x st h; exact h
    | cons a l ih =>
      intro hl x st h
      refine ih (fun a ha => hl a (by simp [ha])) x _ fun t v hv => ?_
      unfold sbA at hv
      split at hv
      · simp only [updC] at hv
        split at hv
        · rename_i e; rw [e]; exact hl a (by simp)
        · exact h t v hv
      · exact h t v hv
  have h2 : ∀ (l : List Duo) (st : CM × Int), (∀ t v, st.1 t = some v → 0 ≤ t ∧ t < F.st) → ∀ t v, (l.foldl (sbX F c) st).1 t = some v → 0 ≤ t ∧ t < F.st := by
    intro l
    induction l with
    | nil => intro st h; exact h
    | cons e l ih => intro st h; exact ih _ (h1 F.arcs hF e st h)
  exact h2 s _ fun t v h => by cases h
theorem sbS_ne {F : TF} {B : Int} {s : List Duo} {c : Int} (hs : SOk F B s) (hB : 0 ≤ B) (hw : ∀ a ∈ F.arcs, 0 ≤ a.w ∧ a.w ≤ 1000000000) (hF : ∀ a ∈ F.arcs, 0 ≤ a.t ∧ a.t < F.st) (h : sbB F s c ≠ -1) : sbS F s c ≠ [] := by
  have hb := sbR_bd (c := c) hs hB hw s.length
  rw [List.take_length] at hb
  obtain ⟨t, ht⟩ := hb.e h
  have hk := sbR_key hF (s := s) (c := c) t _ ht
  have : (⟨t.toNat, (sbR F s c).2 - (sbR F s c).2⟩ : Duo) ∈ sbS F s c := sbL_mem.2 ⟨t.toNat, (sbR F s c).2, by omega, by rw [show ((t.toNat : Nat) : Int) = t by omega]; exact ht, rfl⟩
  intro e
  rw [e] at this
  cases this
structure MInv (U : TF) (T : List (List Duo)) (i : Nat) (st : DS) : Prop where
  sub : ∀ s ∈ st.1, s ∈ T
  nd : st.1.Nodup
  ok : ∀ j, j < st.1.length → SOk U ((j : Int) * 1000000000) (st.1.getD j [])
  ne : ∀ s ∈ st.1, s ≠ []
  len : i ≤ st.1.length ∧ 1 ≤ st.1.length
  raw : ∀ a ∈ st.2, (0 ≤ a.f ∧ a.f < st.1.length) ∧ (0 ≤ a.t ∧ a.t < st.1.length)
theorem numL_mem {L : List (List Duo)} {s : List Duo} : s ∈ numL L s := by
  unfold numL
  split
  · assumption
  · simp
theorem numL_len (L : List (List Duo)) (s : List Duo) : L.length ≤ (numL L s).length ∧ (numL L s).length ≤ L.length + 1 := by
  unfold numL
  split
  · omega
  · rw [List.length_append]; exact ⟨Nat.le_add_right _ _, Nat.le_refl _⟩
theorem numL_get {L : List (List Duo)} {s : List Duo} {j : Nat} (h : j < L.length) : (numL L s).getD j [] = L.getD j [] := by
  unfold numL
  split
  · rfl
  · simp only [List.getD]
    rw [List.getElem?_append_left h]
theorem MInv.step {U : TF} {T : List (List Duo)} {i : Nat} {st : DS} (h : MInv U T i st) (hi : i < st.1.length) (hU : 0 ≤ U.st) (hw : ∀ a ∈ U.arcs, 0 ≤ a.w ∧ a.w ≤ 1000000000) (hr : ∀ a ∈ U.arcs, 0 ≤ a.t ∧ a.t < U.st)
    (hT : ∀ t ∈ T, ∀ c : Nat, c < 9 → sbB U t ((c : Int) + 1) ≠ -1 → sbS U t ((c : Int) + 1) ∈ T) {c : Nat} (hc : c < 9) : MInv U T i (stD U i st ((c : Int) + 1)) ∧ st.1.length ≤ (stD U i st ((c : Int) + 1)).1.length ∧ (stD U i st ((c : Int) + 1)).2.length ≤ st.2.length + 1 := by
  unfold stD
  have hm := getD_mem st.1 i [] hi
  have hok := h.ok i hi
  by_cases hb : sbB U (st.1.getD i []) ((c : Int) + 1) = -1
  · rw [if_pos hb]
    exact ⟨h, Nat.le_refl _, Nat.le_succ _⟩
  · rw [if_neg hb]
    generalize hs : st.1.getD i [] = s at *
    have hsT := hT s (h.sub s hm) c hc hb
    have hsok := (sbS_ok (c := (c : Int) + 1) hok (by omega) hU hw).1
    have hsne := sbS_ne hok (by omega) hw hr hb
    generalize sbS U s ((c : Int) + 1) = t at *
    have hl := numL_len st.1 t
    refine ⟨⟨fun x hx => ?_, ?_, fun j hj => ?_, fun x hx => ?_, ⟨by simp only; have := h.len.1; omega, by simp only; have := h.len.2; omega⟩, fun a ha => ?_⟩, hl.1, by simp⟩
    · simp only [numL] at hx
      split at hx
      · exact h.sub x hx
      · rw [List.mem_append, List.mem_singleton] at hx
        rcases hx with hx | rfl
        · exact h.sub x hx
        · exact hsT
    · simp only [numL]
      split
      · exact h.nd
      · rename_i hn
        rw [List.nodup_append]
        refine ⟨h.nd, by simp, fun a ha b hb => ?_⟩
        rw [List.mem_singleton] at hb
        exact fun e => hn (by rw [← hb, ← e]; exact ha)
    · simp only at hj ⊢
      by_cases hj2 : j < st.1.length
      · rw [numL_get hj2]; exact h.ok j hj2
      · have e : j = st.1.length := by omega
        have : t ∉ st.1 := fun c => by simp only [numL, if_pos c] at hj; omega
        have e2 : (numL st.1 t).getD j [] = t := by
          simp only [numL, if_neg this, List.getD, e]
          simp
        rw [e2]
        refine hsok.mono ?_
        omega
    · simp only [numL] at hx
      split at hx
      · exact h.ne x hx
      · rw [List.mem_append, List.mem_singleton] at hx
        rcases hx with hx | rfl
        · exact h.ne x hx
        · exact hsne
    · simp only [List.mem_append, List.mem_singleton] at ha ⊢
      rcases ha with ha | rfl
      · have := h.raw a ha
        omega
      · have := List.idxOf_lt_length_of_mem (numL_mem (L := st.1) (s := t))
        simp only
        omega
theorem MInv.start {U : TF} {T : List (List Duo)} (hs : 0 ≤ U.start ∧ U.start < U.st) (hT : [⟨U.start, 0⟩] ∈ T) : MInv U T 0 (rowsD U 0) := by
  refine ⟨fun s h => ?_, by simp [rowsD], fun j hj => ?_, fun s h => ?_, by simp [rowsD], fun a ha => by simp [rowsD] at ha⟩
  · simp only [rowsD, List.mem_singleton] at h
    rw [h]; exact hT
  · simp only [rowsD, List.length_cons, List.length_nil] at hj
    have : j = 0 := by omega
    subst this
    refine ⟨?_, fun e he => ?_⟩
    · simp [rowsD]; omega
    · simp [rowsD] at he
      subst he
      simp only
      omega
  · simp only [rowsD, List.mem_singleton] at h
    rw [h]; simp
end Go.Fw

/-
  When all is made, nothing more comes; what is made is one thing alone.
-/
namespace Go.Fw
open Go Go.Proofs
theorem stD_stop {U : TF} {i : Nat} {st : DS} (h : st.1.length ≤ i) (c : Int) : stD U i st c = st := by
  have e : st.1.getD i [] = [] := by simp only [List.getD, List.getElem?_eq_none h]; rfl
  unfold stD
  rw [e, if_pos (show sbB U [] c = -1 from rfl)]
theorem rowP_stop {U : TF} {i : Nat} {st : DS} (h : st.1.length ≤ i) (k : Nat) : rowP U i st k = st := by
  induction k with
  | zero => rfl
  | succ k ih => rw [rowP_succ, ih, stD_stop h]
theorem rows_stop {U : TF} {j : Nat} (h : (rowsD U j).1.length ≤ j) (d : Nat) : rowsD U (j + d) = rowsD U j := by
  induction d with
  | zero => rfl
  | succ d ih =>
    show rowP U (j + d) (rowsD U (j + d)) 9 = _
    rw [ih, rowP_stop (by omega)]
theorem MDone.uniq {U : TF} {st st' : DS} (h : MDone U st) (h' : MDone U st') : st = st' := by
  obtain ⟨k, e, hk⟩ := h
  obtain ⟨k', e', hk'⟩ := h'
  rcases Nat.le_total k k' with hle | hle
  · have := rows_stop (U := U) (j := k) (by rw [e, hk]; exact Nat.le_refl _) (k' - k)
    rw [show k + (k' - k) = k' by omega, e, e'] at this
    exact this.symm
  · have := rows_stop (U := U) (j := k') (by rw [e', hk']; exact Nat.le_refl _) (k - k')
    rw [show k' + (k - k') = k by omega, e, e'] at this
    exact this
section
variable {U : TF} {T : List (List Duo)} (hU : 0 ≤ U.st) (hw : ∀ a ∈ U.arcs, 0 ≤ a.w ∧ a.w ≤ 1000000000) (hr : ∀ a ∈ U.arcs, 0 ≤ a.t ∧ a.t < U.st) (hs : 0 ≤ U.start ∧ U.start < U.st)
    (hT0 : [⟨U.start, 0⟩] ∈ T) (hT : ∀ t ∈ T, ∀ c : Nat, c < 9 → sbB U t ((c : Int) + 1) ≠ -1 → sbS U t ((c : Int) + 1) ∈ T)
include hU hw hr hT
theorem MInv.row {i : Nat} {st : DS} (h : MInv U T i st) (hi : i < st.1.length) (k : Nat) (hk : k ≤ 9) : MInv U T i (rowP U i st k) ∧ st.1.length ≤ (rowP U i st k).1.length ∧ (rowP U i st k).2.length ≤ st.2.length + k := by
  induction k with
  | zero => exact ⟨h, Nat.le_refl _, Nat.le_refl _⟩
  | succ k ih =>
    obtain ⟨h1, h2, h3⟩ := ih (by omega)
    obtain ⟨g1, g2, g3⟩ := h1.step (by omega) hU hw hr hT (c := k) (by omega)
    rw [rowP_succ]
    exact ⟨g1, by omega, by omega⟩
include hs hT0
theorem MDone.inv {st : DS} (h : MDone U st) : MInv U T st.1.length st ∧ st.2.length ≤ 9 * st.1.length := by
  obtain ⟨k, e, hk⟩ := h
  have hlt : ∀ j, j < k → j < (rowsD U j).1.length := by
    intro j hj
    refine Classical.byContradiction fun hc => ?_
    have := rows_stop (U := U) (j := j) (by omega) (k - j)
    rw [show j + (k - j) = k by omega, e] at this
    rw [← this] at hc
    omega
  have : ∀ j, j ≤ k → MInv U T j (rowsD U j) ∧ (rowsD U j).2.length ≤ 9 * j := by
    intro j
    induction j with
    | zero => intro _; exact ⟨MInv.start hs hT0, by simp [rowsD]⟩
    | succ j ih =>
      intro hj
      obtain ⟨h1, h2⟩ := ih (by omega)
      have h3 := hlt j (by omega)
      obtain ⟨g1, g2, g3⟩ := h1.row hU hw hr hT h3 9 (Nat.le_refl _)
      refine ⟨⟨g1.sub, g1.nd, g1.ok, g1.ne, ⟨?_, g1.len.2⟩, g1.raw⟩, ?_⟩
      · show j + 1 ≤ (rowP U j (rowsD U j) 9).1.length
        omega
      · show (rowP U j (rowsD U j) 9).2.length ≤ _
        omega
  have h := this k (Nat.le_refl _)
  rw [e, hk] at h
  exact h
end
theorem MDone.small {U : TF} (hU : 0 ≤ U.st) (hw : ∀ a ∈ U.arcs, 0 ≤ a.w ∧ a.w ≤ 1000000000) (hr : ∀ a ∈ U.arcs, 0 ≤ a.t ∧ a.t < U.st) (hs : 0 ≤ U.start ∧ U.start < U.st) (hb : bgnF U 201 200 [⟨U.start, 0⟩] ≤ 200) {st : DS} (h : MDone U st) :
    MInv U (treeL U 201 [⟨U.start, 0⟩]) st.1.length st ∧ st.1.length ≤ 200 ∧ st.2.length ≤ 1800 := by
  obtain ⟨g1, g2⟩ := tree_ok U 201 200 [⟨U.start, 0⟩] (by omega) hb
  obtain ⟨h1, h2⟩ := h.inv hU hw hr hs (tree_self _ _ _) g2
  have := nd_le h1.nd h1.sub
  exact ⟨h1, by omega, by omega⟩
end Go.Fw

/-
  Words of an acceptor, breadth by breadth: each beginning with what states cost behind it.
-/
namespace Go.Fw
theorem setI_getD (l : List Int) (t : Nat) (m : Int) (n : Nat) (ht : t < l.length) : (l.set t m).getD n 0 = if n = t then m else l.getD n 0 := by
  simp only [List.getD, List.getElem?_set]
  by_cases e : t = n
  · subst e; simp [ht]
  · rw [if_neg e, if_neg (fun c => e c.symm)]
inductive RdW (L : List Arc) : Int → List Int → Int → Int → Prop
  | nil (s : Int) : RdW L s [] s 0
  | cons {a : Arc} {u : List Int} {t c : Int} (ha : a ∈ L) (h : RdW L a.t u t c) : RdW L a.f (a.i :: u) t (a.w + c)
theorem RdW.snoc {L : List Arc} {s t c : Int} {u : List Int} (h : RdW L s u t c) {a : Arc} (ha : a ∈ L) (he : a.f = t) : RdW L s (u ++ [a.i]) a.t (c + a.w) := by
  induction h with
  | nil s => subst he; have := RdW.cons ha (.nil a.t); rwa [Int.add_zero, ← Int.zero_add a.w] at this
  | cons hb h ih => rw [Int.add_assoc]; exact .cons hb (ih he)
theorem RdW.app {L : List Arc} {s t r c d : Int} {u v : List Int} (h : RdW L s u t c) (h' : RdW L t v r d) : RdW L s (u ++ v) r (c + d) := by
  induction h with
  | nil s => rwa [Int.zero_add]
  | cons hb h ih => rw [Int.add_assoc]; exact .cons hb (ih h')
theorem RdW.split {L : List Arc} {s t c : Int} {u v : List Int} (h : RdW L s (u ++ v) t c) : ∃ q d e, RdW L s u q d ∧ RdW L q v t e ∧ c = d + e := by
  induction u generalizing s c with
  | nil => exact ⟨s, 0, c, .nil s, h, by omega⟩
  | cons x u ih =>
    generalize hw : (x :: u) ++ v = w at h
    cases h with
    | nil => cases hw
    | cons ha h =>
      rename_i a w' c'
      have e := List.cons.inj hw
      rw [← e.2] at h
      obtain ⟨q, d, f, h1, h2, h3⟩ := ih h
      exact ⟨q, a.w + d, f, e.1 ▸ .cons ha h1, h2, by omega⟩
theorem RdW.none {L : List Arc} {s t c : Int} {u : List Int} (h : RdW L s u t c) (hu : u = []) : t = s ∧ c = 0 := by
  cases h with
  | nil => exact ⟨rfl, rfl⟩
  | cons => cases hu
theorem RdW.one {L : List Arc} {s t c x : Int} (h : RdW L s [x] t c) : ∃ a ∈ L, a.f = s ∧ a.i = x ∧ a.t = t ∧ c = a.w := by
  generalize hw : [x] = w at h
  cases h with
  | nil => cases hw
  | cons ha h =>
    have e := List.cons.inj hw
    obtain ⟨g1, g2⟩ := h.none e.2.symm
    exact ⟨_, ha, rfl, e.1.symm, g1.symm, by omega⟩
theorem RdW.unsnoc {L : List Arc} {s t c x : Int} {u : List Int} (h : RdW L s (u ++ [x]) t c) : ∃ a ∈ L, ∃ d, RdW L s u a.f d ∧ a.i = x ∧ a.t = t ∧ c = d + a.w := by
  obtain ⟨q, d, e, h1, h2, h3⟩ := h.split
  obtain ⟨a, ha, g1, g2, g3, g4⟩ := h2.one
  exact ⟨a, ha, d, g1 ▸ h1, g2, g3, by omega⟩
theorem RdW.pos {L : List Arc} (hL : ∀ a ∈ L, 0 ≤ a.w ∧ a.w ≤ 1000000000) {s t c : Int} {u : List Int} (h : RdW L s u t c) : 0 ≤ c ∧ c ≤ 1000000000 * u.length := by
  induction h with
  | nil s => simp
  | cons ha h ih =>
    have := hL _ ha
    rw [List.length_cons]
    omega
theorem RdW.rng {L : List Arc} {n : Int} (hL : ∀ a ∈ L, 0 ≤ a.t ∧ a.t < n) {s t c : Int} {u : List Int} (h : RdW L s u t c) (hs : 0 ≤ s ∧ s < n) : 0 ≤ t ∧ t < n := by
  induction h with
  | nil s => exact hs
  | cons ha h ih => exact ih (hL _ ha)
def Bg (U : TF) (w : List Int) : Prop := ∃ t c, RdW U.arcs U.start w t c
structure VecOk (U : TF) (w V : List Int) : Prop where
  len : V.length = U.st.toNat
  min : ∀ q : Nat, q < U.st.toNat → MinOf (fun c => RdW U.arcs U.start w q c) (V.getD q 0)
def nvB (V : List Int) (c : Int) (a : Arc) : Bool := a.i == c && decide (0 ≤ V.getD a.f.toNat 0)
def nvL (l : List Arc) (V : List Int) (c : Int) (n : Nat) : Nat → List Int
  | 0 => List.replicate n (-1)
  | k + 1 => if nvB V c (l.getD k aD) = true then (nvL l V c n k).set (l.getD k aD).t.toNat (less ((nvL l V c n k).getD (l.getD k aD).t.toNat 0) (V.getD (l.getD k aD).f.toNat 0 + (l.getD k aD).w)) else nvL l V c n k
def nvA (l : List Arc) (V : List Int) (c : Int) : Nat → Bool
  | 0 => false
  | k + 1 => if nvB V c (l.getD k aD) = true then true else nvA l V c k
theorem nvL_len (l : List Arc) (V : List Int) (c : Int) (n : Nat) : ∀ k, (nvL l V c n k).length = n
  | 0 => by simp [nvL]
  | k + 1 => by
    have := nvL_len l V c n k
    unfold nvL
    split
    · rw [List.length_set]; exact this
    · exact this
theorem nvA_iff (l : List Arc) (V : List Int) (c : Int) : ∀ k, nvA l V c k = true ↔ ∃ j, j < k ∧ nvB V c (l.getD j aD) = true
  | 0 => by simp [nvA]
  | k + 1 => by
    have ih := nvA_iff l V c k
    unfold nvA
    by_cases h : nvB V c (l.getD k aD) = true
    · rw [if_pos h]
      exact ⟨fun _ => ⟨k, by omega, h⟩, fun _ => rfl⟩
    · rw [if_neg h, ih]
      constructor
      · rintro ⟨j, h1, h2⟩; exact ⟨j, by omega, h2⟩
      · rintro ⟨j, h1, h2⟩
        by_cases e : j = k
        · rw [e] at h2; exact absurd h2 h
        · exact ⟨j, by omega, h2⟩
theorem MinOf.one {v : Int} (h : 0 ≤ v) : MinOf (fun c => c = v) v := .inr ⟨h, rfl, fun c e => by omega⟩
theorem nvL_min {l : List Arc} {V : List Int} {c : Int} {n : Nat} (hl : ∀ a ∈ l, 0 ≤ a.t ∧ a.t < n ∧ 0 ≤ a.w) : ∀ k, k ≤ l.length → ∀ q : Nat, q < n →
    MinOf (fun x => ∃ j, j < k ∧ nvB V c (l.getD j aD) = true ∧ (l.getD j aD).t = q ∧ x = V.getD (l.getD j aD).f.toNat 0 + (l.getD j aD).w) ((nvL l V c n k).getD q 0)
  | 0, _, q, hq => by
    left
    refine ⟨by simp [nvL, List.getD, hq], fun x => ?_⟩
    rintro ⟨j, hj, _⟩
    omega
  | k + 1, hk, q, hq => by
    have ih := nvL_min (V := V) (c := c) hl k (by omega) q hq
    have ha := hl _ (getD_mem l k aD (by omega))
    have hlen := nvL_len l V c n k
    unfold nvL
    by_cases h : nvB V c (l.getD k aD) = true
    · rw [if_pos h, setI_getD _ _ _ _ (by omega)]
      have hb := h
      unfold nvB at hb
      rw [Bool.and_eq_true, decide_eq_true_eq] at hb
      by_cases e : q = (l.getD k aD).t.toNat
      · rw [if_pos e, ← e]
        refine (MinOf.or ih (MinOf.one (show 0 ≤ V.getD (l.getD k aD).f.toNat 0 + (l.getD k aD).w by omega))).cong fun x => ?_
        constructor
        · rintro (⟨j, h1, h2, h3, h4⟩ | rfl)
          · exact ⟨j, by omega, h2, h3, h4⟩
          · exact ⟨k, by omega, h, by omega, rfl⟩
        · rintro ⟨j, h1, h2, h3, h4⟩
          by_cases ej : j = k
          · subst ej; exact .inr h4
          · exact .inl ⟨j, by omega, h2, h3, h4⟩
      · rw [if_neg e]
        refine ih.cong fun x => ?_
        constructor
        · rintro ⟨j, h1, h2, h3, h4⟩
          exact ⟨j, by omega, h2, h3, h4⟩
        · rintro ⟨j, h1, h2, h3, h4⟩
          by_cases ej : j = k
          · subst ej; omega
          · exact ⟨j, by omega, h2, h3, h4⟩
    · rw [if_neg h]
      refine ih.cong fun x => ?_
      constructor
      · rintro ⟨j, h1, h2, h3, h4⟩
        exact ⟨j, by omega, h2, h3, h4⟩
      · rintro ⟨j, h1, h2, h3, h4⟩
        by_cases ej : j = k
        · subst ej; exact absurd h2 h
        · exact ⟨j, by omega, h2, h3, h4⟩
theorem getD_ix {l : List Arc} {a : Arc} (h : a ∈ l) : ∃ j, j < l.length ∧ l.getD j aD = a := by
  obtain ⟨j, hj, rfl⟩ := List.mem_iff_getElem.1 h
  exact ⟨j, hj, by simp [List.getD, hj]⟩
section
variable {U : TF} (hU : ∀ a ∈ U.arcs, (0 ≤ a.f ∧ a.f < U.st) ∧ (0 ≤ a.t ∧ a.t < U.st) ∧ 0 ≤ a.w ∧ a.w ≤ 1000000000)
include hU
theorem VecOk.step {w V : List Int} (h : VecOk U w V) (c : Int) : VecOk U (w ++ [c]) (nvL U.arcs V c U.st.toNat U.arcs.length) := by
  refine ⟨nvL_len _ _ _ _ _, fun q hq => ?_⟩
  refine (nvL_min (fun a ha => by have := hU a ha; omega) U.arcs.length (Nat.le_refl _) q hq).dom ?_ ?_
  · rintro x ⟨j, hj, h1, h2, rfl⟩
    have hm := getD_mem U.arcs j aD hj
    have hr := hU _ hm
    unfold nvB at h1
    rw [Bool.and_eq_true, decide_eq_true_eq, beq_iff_eq] at h1
    have := (h.min _ (show (U.arcs.getD j aD).f.toNat < U.st.toNat by omega)).is (by omega)
    rw [← h1.1, ← h2]
    exact this.snoc hm (by omega)
  · intro x hx
    obtain ⟨a, ha, d, h1, h2, h3, h4⟩ := hx.unsnoc
    obtain ⟨j, hj, rfl⟩ := getD_ix ha
    have hr := hU _ ha
    have hv := (h.min _ (show (U.arcs.getD j aD).f.toNat < U.st.toNat by omega)).le (c := d) (by rw [show (((U.arcs.getD j aD).f.toNat : Nat) : Int) = (U.arcs.getD j aD).f by omega]; exact h1)
    have hl := (h.min _ (show (U.arcs.getD j aD).f.toNat < U.st.toNat by omega)).low
    refine ⟨V.getD (U.arcs.getD j aD).f.toNat 0 + (U.arcs.getD j aD).w, by omega, j, hj, ?_, h3, rfl⟩
    unfold nvB
    rw [Bool.and_eq_true, decide_eq_true_eq, beq_iff_eq]
    exact ⟨h2, by omega⟩
theorem VecOk.any {w V : List Int} (h : VecOk U w V) (c : Int) : nvA U.arcs V c U.arcs.length = true ↔ Bg U (w ++ [c]) := by
  rw [nvA_iff]
  constructor
  · rintro ⟨j, hj, h1⟩
    have hm := getD_mem U.arcs j aD hj
    have hr := hU _ hm
    unfold nvB at h1
    rw [Bool.and_eq_true, decide_eq_true_eq, beq_iff_eq] at h1
    have := (h.min _ (show (U.arcs.getD j aD).f.toNat < U.st.toNat by omega)).is (by omega)
    exact ⟨_, _, h1.1 ▸ this.snoc hm (by omega)⟩
  · rintro ⟨t, x, hx⟩
    obtain ⟨a, ha, d, h1, h2, h3, h4⟩ := hx.unsnoc
    obtain ⟨j, hj, rfl⟩ := getD_ix ha
    have hr := hU _ ha
    have hv := (h.min _ (show (U.arcs.getD j aD).f.toNat < U.st.toNat by omega)).le (c := d) (by rw [show (((U.arcs.getD j aD).f.toNat : Nat) : Int) = (U.arcs.getD j aD).f by omega]; exact h1)
    have hl := (h.min _ (show (U.arcs.getD j aD).f.toNat < U.st.toNat by omega)).low
    refine ⟨j, hj, ?_⟩
    unfold nvB
    rw [Bool.and_eq_true, decide_eq_true_eq, beq_iff_eq]
    exact ⟨h2, by omega⟩
theorem VecOk.bd {w V : List Int} (h : VecOk U w V) (q : Nat) : -1 ≤ V.getD q 0 ∧ V.getD q 0 ≤ 1000000000 * w.length := by
  by_cases hq : q < U.st.toNat
  · have hl := (h.min q hq).low
    by_cases e : V.getD q 0 = -1
    · omega
    · have := ((h.min q hq).is e).pos (fun a ha => by have := hU a ha; omega)
      omega
  · have := h.len
    simp only [List.getD, List.getElem?_eq_none (show V.length ≤ q by omega), Option.getD_none]
    omega
end
structure WSt (U : TF) (W vs : List (List Int)) (par sym : List Int) (i : Nat) (c : Int) : Prop where
  lv : vs.length = W.length
  lp : par.length = W.length
  ls : sym.length = W.length
  pos : 1 ≤ W.length
  w0 : W.getD 0 [] = []
  p0 : par.getD 0 0 = -1
  s0 : sym.getD 0 0 = 0
  vec : ∀ j, j < W.length → VecOk U (W.getD j []) (vs.getD j [])
  wl : ∀ j, j < W.length → (W.getD j []).length ≤ j
  bg : ∀ j, j < W.length → Bg U (W.getD j [])
  on : ∀ j, 1 ≤ j → j < W.length → ∃ k : Nat, k < j ∧ par.getD j 0 = k ∧ (1 ≤ sym.getD j 0 ∧ sym.getD j 0 ≤ 9) ∧ W.getD j [] = W.getD k [] ++ [sym.getD j 0] ∧ (k < i ∨ k = i ∧ sym.getD j 0 < c)
  nd : ∀ j k, j < W.length → k < W.length → W.getD j [] = W.getD k [] → j = k
  all : ∀ j x, j < W.length → 1 ≤ x → x ≤ 9 → (j < i ∨ j = i ∧ x < c) → Bg U (W.getD j [] ++ [x]) → ∃ k, k < W.length ∧ W.getD k [] = W.getD j [] ++ [x]
theorem snoc_getD {α : Type} (l : List α) (x d : α) (n : Nat) : (l ++ [x]).getD n d = if n = l.length then x else l.getD n d := by
  simp only [List.getD]
  by_cases h : n < l.length
  · rw [if_neg (by omega), List.getElem?_append_left h]
  · by_cases h2 : n = l.length
    · rw [if_pos h2, h2]; simp
    · rw [if_neg h2, List.getElem?_eq_none (by simp; omega), List.getElem?_eq_none (by omega)]
section
variable {U : TF} {W vs : List (List Int)} {par sym : List Int} {i : Nat} {c : Int}
theorem WSt.start {V : List Int} (hV : VecOk U [] V) : WSt U [[]] [V] [-1] [0] 0 1 := by
  have h1 : ∀ j, j < ([[]] : List (List Int)).length → j = 0 := fun j hj => by simpa using hj
  refine ⟨rfl, rfl, rfl, by simp, rfl, rfl, rfl, fun j hj => ?_, fun j hj => ?_, fun j hj => ?_, fun j h2 hj => ?_, fun j k hj hk _ => ?_, fun j x hj h2 h3 h4 => ?_⟩
  · rw [h1 j hj]; exact hV
  · rw [h1 j hj]; exact Nat.le_refl _
  · rw [h1 j hj]; exact ⟨_, _, .nil _⟩
  · have := h1 j hj; omega
  · rw [h1 j hj, h1 k hk]
  · have := h1 j hj; omega
theorem WSt.skip (h : WSt U W vs par sym i c) (hn : ¬ Bg U (W.getD i [] ++ [c])) : WSt U W vs par sym i (c + 1) :=
  { h with
    on := fun j h1 h2 => by
      obtain ⟨k, g1, g2, g3, g4, g5⟩ := h.on j h1 h2
      exact ⟨k, g1, g2, g3, g4, by omega⟩
    all := fun j x hj h1 h2 h3 hb => by
      by_cases e : j = i ∧ x = c
      · rw [e.1, e.2] at hb; exact absurd hb hn
      · exact h.all j x hj h1 h2 (by omega) hb }
theorem WSt.next (h : WSt U W vs par sym i 10) : WSt U W vs par sym (i + 1) 1 :=
  { h with
    on := fun j h1 h2 => by
      obtain ⟨k, g1, g2, g3, g4, g5⟩ := h.on j h1 h2
      exact ⟨k, g1, g2, g3, g4, by omega⟩
    all := fun j x hj h1 h2 h3 hb => h.all j x hj h1 h2 (by omega) hb }
theorem WSt.push (h : WSt U W vs par sym i c) (hi : i < W.length) (hc : 1 ≤ c ∧ c ≤ 9) {V : List Int} (hV : VecOk U (W.getD i [] ++ [c]) V) (hb : Bg U (W.getD i [] ++ [c])) :
    WSt U (W ++ [W.getD i [] ++ [c]]) (vs ++ [V]) (par ++ [(i : Int)]) (sym ++ [c]) i (c + 1) := by
  have hpos := h.pos
  have hlv := h.lv
  have hlp := h.lp
  have hls := h.ls
  have hnew : ∀ k, k < W.length → W.getD k [] ≠ W.getD i [] ++ [c] := by
    intro k hk e
    by_cases hk0 : k = 0
    · rw [hk0, h.w0] at e; simp at e
    · obtain ⟨j, g1, g2, g3, g4, g5⟩ := h.on k (by omega) hk
      rw [g4] at e
      have e2 := List.append_inj' e rfl
      have := h.nd j i (by omega) hi e2.1
      have := (List.cons.inj e2.2).1
      omega
  refine ⟨by simp [hlv], by simp [hlp], by simp [hls], by simp, ?_, ?_, ?_, fun j hj => ?_, fun j hj => ?_, fun j hj => ?_, fun j h1 hj => ?_, fun j k hj hk => ?_, fun j x hj h1 h2 h3 hbx => ?_⟩
  · rw [snoc_getD, if_neg (by omega)]; exact h.w0
  · rw [snoc_getD, if_neg (by omega)]; exact h.p0
  · rw [snoc_getD, if_neg (by omega)]; exact h.s0
  · rw [snoc_getD, snoc_getD, hlv]
    by_cases e : j = W.length
    · rw [if_pos e, if_pos e]; exact hV
    · rw [if_neg e, if_neg e]; exact h.vec j (by simp at hj; omega)
  · rw [snoc_getD]
    by_cases e : j = W.length
    · rw [if_pos e, List.length_append, List.length_singleton]; have := h.wl i hi; omega
    · rw [if_neg e]; exact h.wl j (by simp at hj; omega)
  · rw [snoc_getD]
    by_cases e : j = W.length
    · rw [if_pos e]; exact hb
    · rw [if_neg e]; exact h.bg j (by simp at hj; omega)
  · rw [snoc_getD, snoc_getD, snoc_getD, hlp, hls]
    by_cases e : j = W.length
    · rw [if_pos e, if_pos e, if_pos e]
      exact ⟨i, by omega, rfl, hc, by rw [snoc_getD, if_neg (by omega)], .inr ⟨rfl, by omega⟩⟩
    · rw [if_neg e, if_neg e, if_neg e]
      have hj2 : j < W.length := by simp at hj; omega
      obtain ⟨k, g1, g2, g3, g4, g5⟩ := h.on j h1 hj2
      exact ⟨k, g1, g2, g3, by rw [snoc_getD, if_neg (by omega)]; exact g4, by omega⟩
  · rw [snoc_getD, snoc_getD]
    simp only [List.length_append, List.length_singleton] at hj hk
    by_cases e : j = W.length <;> by_cases e2 : k = W.length
    · intro _; omega
    · rw [if_pos e, if_neg e2]; intro q; exact absurd q.symm (hnew k (by omega))
    · rw [if_neg e, if_pos e2]; intro q; exact absurd q (hnew j (by omega))
    · rw [if_neg e, if_neg e2]; exact h.nd j k (by omega) (by omega)
  · simp only [List.length_append, List.length_singleton] at hj ⊢
    have hj2 : j < W.length := by omega
    rw [snoc_getD, if_neg (by omega)] at hbx ⊢
    by_cases e : j = i ∧ x = c
    · refine ⟨W.length, by omega, ?_⟩
      rw [snoc_getD, if_pos rfl, e.1, e.2]
    · obtain ⟨k, g1, g2⟩ := h.all j x hj2 h1 h2 (by omega) hbx
      exact ⟨k, by omega, by rw [snoc_getD, if_neg (by omega)]; exact g2⟩
end
end Go.Fw

/-
  One way for each word: what a subset is, told by the ways of words.
-/
namespace Go.Fw
def OptMin (P : Int → Prop) (o : Option Int) : Prop := (o = none ∧ ∀ x, ¬ P x) ∨ ∃ v, o = some v ∧ P v ∧ ∀ x, P x → v ≤ x
theorem OptMin.cong {P Q : Int → Prop} {o : Option Int} (h : OptMin P o) (hpq : ∀ c, P c ↔ Q c) : OptMin Q o := by
  rcases h with ⟨h1, h2⟩ | ⟨v, h1, h2, h3⟩
  · exact .inl ⟨h1, fun x hx => h2 x ((hpq x).2 hx)⟩
  · exact .inr ⟨v, h1, (hpq v).1 h2, fun x hx => h3 x ((hpq x).2 hx)⟩
structure SbI (P : Int → Int → Prop) (st : CM × Int) : Prop where
  c : ∀ t, OptMin (P t) (st.1 t)
  b : MinOf (fun v => ∃ t, P t v) st.2
  pos : ∀ t v, P t v → 0 ≤ v
theorem SbI.cong {P Q : Int → Int → Prop} {st : CM × Int} (h : SbI P st) (hpq : ∀ t v, P t v ↔ Q t v) : SbI Q st :=
  ⟨fun t => (h.c t).cong (hpq t), h.b.cong fun v => ⟨fun ⟨t, ht⟩ => ⟨t, (hpq t v).1 ht⟩, fun ⟨t, ht⟩ => ⟨t, (hpq t v).2 ht⟩⟩, fun t v hv => h.pos t v ((hpq t v).2 hv)⟩
theorem SbI.step {P : Int → Int → Prop} {st : CM × Int} (h : SbI P st) {c : Int} {x : Duo} {a : Arc} (h0 : 0 ≤ x.b + a.w) :
    SbI (fun t v => P t v ∨ a.f = x.a ∧ a.i = c ∧ a.t = t ∧ v = x.b + a.w) (sbA c x st a) := by
  unfold sbA
  by_cases hc : a.f = x.a ∧ a.i = c
  · rw [if_pos hc]
    generalize x.b + a.w = n at *
    refine ⟨fun t => ?_, ?_, ?_⟩
    · simp only [updC]
      by_cases e : t = a.t
      · rw [if_pos e, ← e]
        rcases h.c t with ⟨h1, h2⟩ | ⟨o, h1, h2, h3⟩
        · rw [h1]
          exact .inr ⟨n, rfl, .inr ⟨hc.1, hc.2, by simp, rfl⟩, fun y hy => by
            rcases hy with hy | hy
            · exact absurd hy (h2 y)
            · omega⟩
        · rw [h1]
          simp only
          split
          · rename_i hlt
            exact .inr ⟨n, rfl, .inr ⟨hc.1, hc.2, by simp, rfl⟩, fun y hy => by
              rcases hy with hy | hy
              · have := h3 y hy; omega
              · omega⟩
          · rename_i hlt
            exact .inr ⟨o, rfl, .inl h2, fun y hy => by
              rcases hy with hy | hy
              · exact h3 y hy
              · omega⟩
      · rw [if_neg e]
        exact (h.c t).cong fun v => ⟨fun g => .inl g, fun g => g.elim id fun g => absurd g.2.2.1.symm e⟩
    · have hb := h.b
      simp only [updB]
      rcases hb with ⟨h1, h2⟩ | ⟨h1, ⟨t, h2⟩, h3⟩
      · rw [if_pos (.inl h1)]
        exact .inr ⟨h0, ⟨a.t, .inr ⟨hc.1, hc.2, by simp, rfl⟩⟩, fun y ⟨t, hy⟩ => by
          rcases hy with hy | hy
          · exact absurd ⟨t, hy⟩ (h2 y)
          · omega⟩
      · by_cases hlt : n < st.2
        · rw [if_pos (.inr hlt)]
          exact .inr ⟨h0, ⟨a.t, .inr ⟨hc.1, hc.2, by simp, rfl⟩⟩, fun y ⟨t, hy⟩ => by
            rcases hy with hy | hy
            · have := h3 y ⟨t, hy⟩; omega
            · omega⟩
        · rw [if_neg (by omega)]
          exact .inr ⟨h1, ⟨t, .inl h2⟩, fun y ⟨t, hy⟩ => by
            rcases hy with hy | hy
            · exact h3 y ⟨t, hy⟩
            · omega⟩
    · rintro t v (hv | hv)
      · exact h.pos t v hv
      · omega
  · rw [if_neg hc]
    exact h.cong fun t v => ⟨fun g => .inl g, fun g => g.elim id fun g => absurd ⟨g.1, g.2.1⟩ hc⟩
theorem SbI.arcs {c : Int} {x : Duo} (hx : 0 ≤ x.b) : ∀ (l : List Arc), (∀ a ∈ l, 0 ≤ a.w) → ∀ {P : Int → Int → Prop} {st : CM × Int}, SbI P st →
    SbI (fun t v => P t v ∨ ∃ a ∈ l, a.f = x.a ∧ a.i = c ∧ a.t = t ∧ v = x.b + a.w) (l.foldl (sbA c x) st)
  | [], _, P, st, h => h.cong fun t v => ⟨fun g => .inl g, fun g => g.elim id fun ⟨a, ha, _⟩ => by cases ha⟩
  | a :: l, hl, P, st, h => by
    have h1 := h.step (c := c) (x := x) (a := a) (by have := hl a (by simp); omega)
    refine (SbI.arcs hx l (fun a ha => hl a (by simp [ha])) h1).cong fun t v => ?_
    constructor
    · rintro ((g | g) | ⟨b, hb, g⟩)
      · exact .inl g
      · exact .inr ⟨a, by simp, g⟩
      · exact .inr ⟨b, by simp [hb], g⟩
    · rintro (g | ⟨b, hb, g⟩)
      · exact .inl (.inl g)
      · rcases List.mem_cons.1 hb with rfl | hb
        · exact .inl (.inr g)
        · exact .inr ⟨b, hb, g⟩
def Cand (U : TF) (s : List Duo) (c t v : Int) : Prop := ∃ e ∈ s, ∃ a ∈ U.arcs, a.f = e.a ∧ a.i = c ∧ a.t = t ∧ v = e.b + a.w
theorem sbR_spec {U : TF} {s : List Duo} (hs : ∀ e ∈ s, 0 ≤ e.b) (hw : ∀ a ∈ U.arcs, 0 ≤ a.w) (c : Int) : SbI (Cand U s c) (sbR U s c) := by
  have : ∀ (l : List Duo), (∀ e ∈ l, 0 ≤ e.b) → ∀ {P : Int → Int → Prop} {st : CM × Int}, SbI P st → SbI (fun t v => P t v ∨ Cand U l c t v) (l.foldl (sbX U c) st) := by
    intro l
    induction l with
    | nil => intro _ P st h; exact h.cong fun t v => ⟨fun g => .inl g, fun g => g.elim id fun ⟨e, he, _⟩ => by cases he⟩
    | cons e l ih =>
      intro hl P st h
      refine (ih (fun e he => hl e (by simp [he])) (SbI.arcs (c := c) (x := e) (hl e (by simp)) U.arcs hw h)).cong fun t v => ?_
      constructor
      · rintro ((g | ⟨a, ha, g⟩) | ⟨d, hd, g⟩)
        · exact .inl g
        · exact .inr ⟨e, by simp, a, ha, g⟩
        · exact .inr ⟨d, by simp [hd], g⟩
      · rintro (g | ⟨d, hd, a, ha, g⟩)
        · exact .inl (.inl g)
        · rcases List.mem_cons.1 hd with rfl | hd
          · exact .inl (.inr ⟨a, ha, g⟩)
          · exact .inr ⟨d, hd, a, ha, g⟩
  refine (this s hs (P := fun _ _ => False) (st := (fun _ => none, -1)) ⟨fun t => .inl ⟨rfl, fun x h => h⟩, .inl ⟨rfl, fun x ⟨_, h⟩ => h⟩, fun t v h => h.elim⟩).cong fun t v => ⟨fun g => g.elim (fun h => h.elim) id, fun g => .inr g⟩
structure SubOk (U : TF) (w : List Int) (r : Int) (s : List Duo) : Prop where
  r0 : 0 ≤ r
  b0 : ∀ e ∈ s, 0 ≤ e.b
  min : ∀ e ∈ s, MinOf (fun c => RdW U.arcs U.start w e.a c) (r + e.b)
  all : ∀ q c, RdW U.arcs U.start w q c → ∃ e ∈ s, e.a = q
theorem SubOk.start (U : TF) : SubOk U [] 0 [⟨U.start, 0⟩] := by
  refine ⟨Int.le_refl _, fun e he => ?_, fun e he => ?_, fun q c h => ?_⟩
  · rw [List.mem_singleton] at he; subst he; exact Int.le_refl _
  · rw [List.mem_singleton] at he
    subst he
    exact .inr ⟨by simp, .nil _, fun c hc => by have := (hc.none rfl).2; simp only; omega⟩
  · exact ⟨_, List.mem_singleton.2 rfl, ((h.none rfl).1).symm⟩
section
variable {U : TF} (hU : ∀ a ∈ U.arcs, (0 ≤ a.f ∧ a.f < U.st) ∧ (0 ≤ a.t ∧ a.t < U.st) ∧ 0 ≤ a.w ∧ a.w ≤ 1000000000)
include hU
theorem sbS_mem {s : List Duo} (hs : ∀ e ∈ s, 0 ≤ e.b) {c : Int} {e : Duo} : e ∈ sbS U s c ↔ Cand U s c e.a (e.b + sbB U s c) ∧ ∀ x, Cand U s c e.a x → e.b + sbB U s c ≤ x := by
  have hsp := sbR_spec hs (fun a ha => (hU a ha).2.2.1) c
  unfold sbS sbB
  rw [sbL_mem]
  constructor
  · rintro ⟨t, v, ht, hv, rfl⟩
    rcases hsp.c t with ⟨h1, h2⟩ | ⟨o, h1, h2, h3⟩
    · rw [h1] at hv; cases hv
    · rw [h1] at hv
      cases hv
      simp only
      rw [show v - (sbR U s c).2 + (sbR U s c).2 = v by omega]
      exact ⟨h2, h3⟩
  · rintro ⟨h1, h2⟩
    rcases hsp.c e.a with ⟨g1, g2⟩ | ⟨o, g1, g2, g3⟩
    · exact absurd h1 (g2 _)
    · have : o = e.b + (sbR U s c).2 := by
        have := g3 _ h1
        have := h2 _ g2
        omega
      obtain ⟨d, hd, a, ha, q1, q2, q3, q4⟩ := h1
      have := hU a ha
      refine ⟨e.a.toNat, o, by omega, by rw [show ((e.a.toNat : Nat) : Int) = e.a by omega]; exact g1, ?_⟩
      cases e
      simp only [Duo.mk.injEq] at *
      omega
theorem sbB_iff {s : List Duo} (hs : ∀ e ∈ s, 0 ≤ e.b) {c : Int} : sbB U s c ≠ -1 ↔ ∃ e ∈ s, ∃ a ∈ U.arcs, a.f = e.a ∧ a.i = c := by
  have hsp := sbR_spec hs (fun a ha => (hU a ha).2.2.1) c
  unfold sbB
  constructor
  · intro h
    obtain ⟨t, e, he, a, ha, g1, g2, _⟩ := hsp.b.is h
    exact ⟨e, he, a, ha, g1, g2⟩
  · rintro ⟨e, he, a, ha, g1, g2⟩
    exact (hsp.b.le (c := e.b + a.w) ⟨a.t, e, he, a, ha, g1, g2, rfl, rfl⟩).1
theorem SubOk.no {w : List Int} {r : Int} {s : List Duo} (h : SubOk U w r s) {c : Int} (hb : sbB U s c = -1) : ¬ Bg U (w ++ [c]) := by
  rintro ⟨t, x, hx⟩
  obtain ⟨a, ha, d, h1, h2, _⟩ := hx.unsnoc
  obtain ⟨e, he, h3⟩ := h.all _ _ h1
  exact (sbB_iff hU h.b0).2 ⟨e, he, a, ha, h3.symm, h2⟩ hb
theorem SubOk.yes {w : List Int} {r : Int} {s : List Duo} (h : SubOk U w r s) {c : Int} (hb : sbB U s c ≠ -1) : Bg U (w ++ [c]) := by
  obtain ⟨e, he, a, ha, g1, g2⟩ := (sbB_iff hU h.b0).1 hb
  have hp := (h.min e he).is (by have := h.r0; have := h.b0 e he; omega)
  exact ⟨_, _, g2 ▸ hp.snoc ha g1⟩
theorem SubOk.step {w : List Int} {r : Int} {s : List Duo} (h : SubOk U w r s) {c : Int} (hb : sbB U s c ≠ -1) : SubOk U (w ++ [c]) (r + sbB U s c) (sbS U s c) := by
  have hsp := (sbR_spec h.b0 (fun a ha => (hU a ha).2.2.1) c).b
  have hr := h.r0
  change MinOf _ (sbB U s c) at hsp
  have hb0 : 0 ≤ sbB U s c := by have := hsp.low; omega
  refine ⟨by omega, fun e he => ?_, fun e he => ?_, fun q x hx => ?_⟩
  · have := (sbS_mem hU h.b0).1 he
    have := (hsp.le (c := e.b + sbB U s c) ⟨e.a, this.1⟩).2
    omega
  · obtain ⟨h1, h2⟩ := (sbS_mem hU h.b0).1 he
    right
    refine ⟨?_, ?_, fun x hx => ?_⟩
    · obtain ⟨d, hd, a, ha, q1, q2, q3, q4⟩ := h1
      have := h.b0 d hd
      have := hU a ha
      omega
    · obtain ⟨d, hd, a, ha, q1, q2, q3, q4⟩ := h1
      have hp := (h.min d hd).is (by have := h.b0 d hd; omega)
      have := hp.snoc ha q1
      rw [q2, q3] at this
      rwa [show r + sbB U s c + e.b = r + d.b + a.w by omega]
    · obtain ⟨a, ha, d, g1, g2, g3, g4⟩ := hx.unsnoc
      obtain ⟨f, hf, g5⟩ := h.all _ _ g1
      have := ((h.min f hf).le (c := d) (g5 ▸ g1)).2
      have := h2 (f.b + a.w) ⟨f, hf, a, ha, g5.symm, g2, g3, rfl⟩
      omega
  · obtain ⟨a, ha, d, g1, g2, g3, g4⟩ := hx.unsnoc
    obtain ⟨f, hf, g5⟩ := h.all _ _ g1
    have hc : Cand U s c q (f.b + a.w) := ⟨f, hf, a, ha, g5.symm, g2, g3, rfl⟩
    rcases (sbR_spec h.b0 (fun a ha => (hU a ha).2.2.1) c).c q with ⟨p1, p2⟩ | ⟨o, p1, p2, p3⟩
    · exact absurd hc (p2 _)
    · refine ⟨⟨q, o - sbB U s c⟩, (sbS_mem hU h.b0).2 ?_, rfl⟩
      simp only
      rw [show o - sbB U s c + sbB U s c = o by omega]
      exact ⟨p2, p3⟩
end
theorem finD_min {U : TF} {s : List Duo} (hs : ∀ e ∈ s, 0 ≤ e.b) (hf : ∀ j : Nat, -1 ≤ U.fin.getD j 0) : MinOf (fun x => ∃ e ∈ s, U.fin.getD e.a.toNat 0 ≠ -1 ∧ x = e.b + U.fin.getD e.a.toNat 0) (finD U s) := by
  have : ∀ (l : List Duo), (∀ e ∈ l, 0 ≤ e.b) → ∀ (P : Int → Prop) (r : Int), MinOf P r → MinOf (fun x => P x ∨ ∃ e ∈ l, U.fin.getD e.a.toNat 0 ≠ -1 ∧ x = e.b + U.fin.getD e.a.toNat 0) (l.foldl (finS U) r) := by
    intro l
    induction l with
    | nil => intro _ P r h; exact h.cong fun x => ⟨fun g => .inl g, fun g => g.elim id fun ⟨e, he, _⟩ => by cases he⟩
    | cons e l ih =>
      intro hl P r h
      have he := hl e (by simp)
      have hfe := hf e.a.toNat
      have h1 : MinOf (fun x => P x ∨ (U.fin.getD e.a.toNat 0 ≠ -1 ∧ x = e.b + U.fin.getD e.a.toNat 0)) (finS U r e) := by
        unfold finS
        by_cases hn : U.fin.getD e.a.toNat 0 ≠ -1
        · by_cases hr : r = -1 ∨ e.b + U.fin.getD e.a.toNat 0 < r
          · rw [if_pos ⟨hn, hr⟩]
            refine .inr ⟨by omega, .inr ⟨hn, rfl⟩, fun c hc => ?_⟩
            rcases hc with hc | hc
            · have := h.le hc; omega
            · omega
          · rw [if_neg (fun g => hr g.2)]
            have hr1 : r ≠ -1 := fun g => hr (.inl g)
            have hr2 := h.low
            refine .inr ⟨by omega, .inl (h.is hr1), fun c hc => ?_⟩
            rcases hc with hc | hc
            · exact (h.le hc).2
            · omega
        · rw [if_neg (fun g => hn g.1)]
          exact h.cong fun x => ⟨fun g => .inl g, fun g => g.elim id fun g => absurd g.1 hn⟩
      refine (ih (fun e he => hl e (by simp [he])) _ _ h1).cong fun x => ?_
      constructor
      · rintro ((g | g) | ⟨d, hd, g⟩)
        · exact .inl g
        · exact .inr ⟨e, by simp, g⟩
        · exact .inr ⟨d, by simp [hd], g⟩
      · rintro (g | ⟨d, hd, g⟩)
        · exact .inl (.inl g)
        · rcases List.mem_cons.1 hd with rfl | hd
          · exact .inl (.inr g)
          · exact .inr ⟨d, hd, g⟩
  exact (this s hs _ _ MinOf.none).cong fun x => ⟨fun g => g.elim (fun h => h.elim) id, fun g => .inr g⟩
end Go.Fw
