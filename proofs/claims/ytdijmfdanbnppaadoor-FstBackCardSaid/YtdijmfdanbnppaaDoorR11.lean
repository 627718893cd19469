/-
  (*strings.Builder).WriteString and String: what they leave of all other blocks, block by block; a builder as an object.
-/
import Derived.Test.YtdijmfdanbnppaaDoorR07
import Derived.Laws.IdiomStrings
import Derived.Lib.ItoaLen
import Derived.Test.YtdijmfdanbnppaaDoorR09

set_option linter.unusedSimpArgs false
set_option linter.unusedVariables false

namespace Go.Fw
open Go Go.Proofs Go.Shelf Go.RowKit

/-- Where an appended row lies. -/
theorem append_where {P : Program} (w : World) (t u ty e : TypeId) (i : TypeInfo) (ht : P.underlying t = some (.slice e)) (hu : P.underlying u = some .string) (hi : P.info? e = some i) (hz : i.zero = some (.int .u8 0))
    (hsize : i.size = 1) (hby : i.bytes = 1) (v : Value) (n : Nat) (xs : List Value) (hown : w.ownsRow 0 e 1 v n xs) (s : ByteArray) (hbytes : n + s.size ≤ 140737488355328) :
    ∃ v' w', (Builtin.append_ #[t, u] ty #[v, .string s]).run P w = .ok v' w' ∧ w'.ownsRow 0 e 1 v' (n + s.size) (xs ++ Lib.strCells s) ∧ w.grownBy w' v.ownBlock ∧ (v'.ownBlock = none ∨ v'.ownBlock = v.ownBlock ∨ v'.ownBlock = some w.heap.size) := by
  obtain ⟨v', w', hr, h2, h3, h4⟩ := Lib.run_append_own_string (P := P) w 0 t u ty e i ht hu hi hz hsize hby v n xs hown s (by unfold maxLen; omega) hbytes (Nat.zero_le _)
  refine ⟨v', w', hr, h2, h3, ?_⟩
  have hxl : xs.length = n := by simpa using hown.1
  rcases hown.2 with ⟨rfl, rfl⟩ | ⟨g, cap, cur, rfl, hbg, hg, hnc, hcm, hcs, htake⟩
  · by_cases hm : s.size = 0
    · rw [h4.2 ⟨rfl, hm⟩]; exact .inl rfl
    · have hr2 := run_append_nil_string (P := P) w t u ty e i (.int .u8 0) ht hu hi hz s (by omega) (by omega) (by rw [hby]; omega)
      rw [hr2] at hr
      cases hr
      exact .inr (.inr rfl)
  · by_cases hroom : n + s.size ≤ cap
    · have hcs' : cur.size = cap := by simpa using hcs
      have hr2 := Lib.run_append_room_string (P := P) w t u ty e i ht hu hi hsize g n cap cur hg s hroom (by omega)
      rw [hr2] at hr
      cases hr
      exact .inr (.inl rfl)
    · have holds : ∀ j u, xs[j]? = some u → w.cell? ((⟨g, 0, none⟩ : Addr).add j) = some u := hown.cells (g := g) rfl
      have hr2 := Lib.run_append_grow_string (P := P) w t u ty e i (.int .u8 0) ht hu hi hz ⟨g, 0, none⟩ n cap xs (by rw [hsize]; simpa using hxl) holds s (by omega) (by omega) (by rw [hby]; exact growslice_fits (by omega) (by omega))
      rw [hr2] at hr
      cases hr
      exact .inr (.inr rfl)

theorem append_step {P : Program} {w : World} {ops : Array Oper} {rest : List Oper} {o : Oper} {a : Act} {Q : Exit → Act → World → Prop} (hgd : o.guard = none) (sl x : Operand) (t u : TypeId) {e : TypeId}
    (ho : o.op = .call { callee := .builtin .append, args := #[sl, x], argTypes := #[t, u] }) (ht : P.underlying t = some (.slice e)) (hu : P.underlying u = some .string) (i : TypeInfo) (hi : P.info? e = some i) (hz : i.zero = some (.int .u8 0))
    (hsize : i.size = 1) (hby : i.bytes = 1) (v : Value) (n : Nat) (xs : List Value) (hown : w.ownsRow 0 e 1 v n xs) (s : ByteArray) (hs : a.eval sl = v) (hx : a.eval x = .string s) (hbytes : n + s.size ≤ 140737488355328)
    (k : ∀ v' w', w'.ownsRow 0 e 1 v' (n + s.size) (xs ++ Lib.strCells s) → w.grownBy w' v.ownBlock → (v'.ownBlock = none ∨ v'.ownBlock = v.ownBlock ∨ v'.ownBlock = some w.heap.size) → wpList P ops Q rest (a.put o.dst v') w') : wpList P ops Q (o :: rest) a w := by
  refine wpList_plain hgd fun K hK => ?_
  obtain ⟨v', w', hr, k2, k3, k4⟩ := append_where (P := P) w t u o.type e i ht hu hi hz hsize hby v n xs hown s hbytes
  unfold Oper.wp execOp
  simp only [ho, resolve, invoke, builtin, Sem.run_bind, Sem.run_pure, Result.andThen_ok, List.map_toArray, List.map_cons, List.map_nil, hs, hx, hr]
  exact hK _ _ (k v' w' k2 k3 k4)

/-- A builder, written out. -/
structure BldAt (b : Nat) (p v : Value) (l : List UInt8) (w : World) : Prop where
  row : w.heap[b]? = some (.cells #[p, v] 67 (0, 0))
  ptr : p = .pointer none ∨ p = .pointer (some ⟨b, 0, none⟩)
  own : w.ownsRow 0 5 1 v l.length (Lib.byteCells l)
  ne : v.ownBlock ≠ some b

theorem BldAt.is {b : Nat} {p v : Value} {l : List UInt8} {w : World} (h : BldAt b p v l w) : Lib.BuilderAt 67 5 0 b p (Lib.byteCells l) w := ⟨Nat.zero_le _, v, h.row, by rw [Lib.byteCells_length]; exact h.own, h.ne⟩

theorem check_run {b : Nat} {p v : Value} {l : List UInt8} {w : World} (h : BldAt b p v l w) :
    Calls Tryd.prog 52 #[.pointer (some ⟨b, 0, none⟩)] w fun e w' => e = .returned (.tuple #[]) ∧ BldAt b (.pointer (some ⟨b, 0, none⟩)) v l w' ∧ w.grownBy w' (some b) := by
  rcases h.ptr with hp | hp
  · subst hp
    have key : Calls Tryd.prog 52 #[.pointer (some ⟨b, 0, none⟩)] w _ := Any.Builder_copyCheck_fresh { bldLays with } bldX.toX72 b w h.is.cell0 h.is.shape h.is.frozen0
    refine key.mono ?_
    rintro e w' ⟨rfl, rfl⟩
    refine ⟨rfl, ⟨?_, .inr rfl, ?_, h.ne⟩, ⟨rfl, rfl, rfl, by simp [World.setCell], fun k _ hk => Below.heap_setCell _ _ _ _ (fun e => hk (by simp [e]))⟩⟩
    · simp [World.setCell, Array.getElem?_modify, h.row]
    · exact h.own.kept (row := some b) ⟨rfl, rfl, rfl, by simp [World.setCell], fun k _ hk => Below.heap_setCell _ _ _ _ (fun e => hk (by simp [e]))⟩ (Or.inr h.ne)
  · subst hp
    have key : Calls Tryd.prog 52 #[.pointer (some ⟨b, 0, none⟩)] w _ := Any.Builder_copyCheck_used { bldLays with } bldX.toX72 b w h.is.cell0
    refine key.mono ?_
    rintro e w' ⟨rfl, rfl⟩
    exact ⟨rfl, h, ⟨rfl, rfl, rfl, Nat.le_refl _, fun _ _ _ => rfl⟩⟩

theorem strCells_bs (l : List UInt8) : Lib.strCells (bs l) = Lib.byteCells l := by rw [Lib.strCells_eq, bs_data]

/-- The row of a builder behind a write. -/
def RowAt (w : World) (v v' : Value) : Prop := v'.ownBlock = none ∨ v'.ownBlock = v.ownBlock ∨ ∃ k, v'.ownBlock = some k ∧ w.heap.size ≤ k

set_option maxHeartbeats 2000000 in
set_option maxRecDepth 100000 in
theorem write_run {b : Nat} {p v : Value} {l : List UInt8} {w : World} (h : BldAt b p v l w) (s : List UInt8) (hlen : l.length + s.length ≤ 140737488355328) :
    Calls Tryd.prog 26 #[.pointer (some ⟨b, 0, none⟩), .string (bs s)] w fun e w' => e = .returned (.tuple #[.int .i64 s.length, .nilIface]) ∧
      ∃ v', BldAt b (.pointer (some ⟨b, 0, none⟩)) v' (l ++ s) w' ∧ RowAt w v v' ∧ w.heap.size ≤ w'.heap.size ∧ Ext (fun k => k < w.heap.size ∧ k ≠ b ∧ some k ≠ v.ownBlock) w w' := by
  obtain ⟨i0, hi, hz0, hz1, hz2⟩ := info_parts bldX.infoByte
  have u65 : Tryd.prog.underlying 65 = some (.slice 5) := bldLays.t37
  have u9 : Tryd.prog.underlying 9 = some .string := bldLays.t9
  go_enter Tryd.func26, Tryd.ntmps26
  go_wp2_with (go_at_call 52; refine (check_run h).mono ?_)
  rintro e w1 ⟨rfl, h1, hg1⟩
  have c1 : w1.cell? ⟨b, 1, none⟩ = some v := by rw [Lib.cell_of_heap h1.row]; rfl
  have hblt : b < w1.heap.size := (Array.getElem?_eq_some_iff.1 h1.row).1
  go_wp2_with (at_builtin; refine append_step rfl _ _ 65 9 rfl u65 u9 i0 hi hz0 hz1 hz2 v _ _ h1.own (bs s) rfl rfl (by rw [bs_size]; omega) ?_)
  intro v' w2 hown' hgrow hwh
  have hb2 : w2.heap[b]? = some (.cells #[.pointer (some ⟨b, 0, none⟩), v] 67 (0, 0)) := by
    rw [hgrow.block b hblt (fun e => h1.ne e.symm)]
    exact h1.row
  have d0 : w2.cell? ⟨b, 0, none⟩ = some (.pointer (some ⟨b, 0, none⟩)) := by rw [Lib.cell_of_heap hb2]; rfl
  have d1 : w2.cell? ⟨b, 1, none⟩ = some v := by rw [Lib.cell_of_heap hb2]; rfl
  have f1 : w2.frozen? ⟨b, 1, none⟩ = false := Lib.frozen_of_heap hb2 1
  obtain ⟨ao, n', cap, rfl⟩ : ∃ ao n' cap, v' = .slice ao n' cap := by
    rcases hown'.2 with ⟨hv, _⟩ | ⟨g, cap, cur, hv, _⟩
    · exact ⟨_, _, _, hv⟩
    · exact ⟨_, _, _, hv⟩
  go_wp2
  go_ret2
  rw [strCells_bs, ← Lib.byteCells_append, bs_size] at hown'
  have hput := Lib.BuilderAt.put (T := 67) (e := 5) (Nat.zero_le b) hb2 (bs' := Lib.byteCells (l ++ s)) (by rw [Lib.byteCells_length, List.length_append]; exact hown') (by decide)
  obtain ⟨_, v3, hr3, ho3, hn3⟩ := hput
  have hv3 : v3 = .slice ao n' cap := by
    have h3 : (w2.setCell ⟨b, 1, none⟩ (.slice ao n' cap)).heap[b]? = some (.cells #[.pointer (some ⟨b, 0, none⟩), .slice ao n' cap] 67 (0, 0)) := by simp [World.setCell, Array.getElem?_modify, hb2]
    rw [h3] at hr3
    simp at hr3
    exact hr3.symm
  subst hv3
  refine ⟨by rw [bs_size]; rfl, .slice ao n' cap, ⟨hr3, .inr rfl, by rw [Lib.byteCells_length] at ho3; exact ho3, hn3⟩, ?_, ?_, ?_⟩
  · rcases hwh with h | h | h
    · exact .inl h
    · exact .inr (.inl h)
    · exact .inr (.inr ⟨_, h, hg1.size⟩)
  · have := hg1.size
    have := hgrow.size
    simp [World.setCell]
    omega
  · refine ⟨hgrow.os.trans hg1.os, hgrow.tape.trans hg1.tape, hgrow.output.trans hg1.output, ?_, ?_⟩
    · have := hg1.size
      have := hgrow.size
      simp [World.setCell]
      omega
    · rintro k ⟨hk1, hk2, hk3⟩
      rw [Below.heap_setCell _ _ _ _ hk2, hgrow.block k (Nat.lt_of_lt_of_le hk1 hg1.size) hk3]
      exact hg1.block k hk1 (fun e => hk2 (Option.some.inj e))

set_option maxHeartbeats 2000000 in
set_option maxRecDepth 100000 in
theorem string_run {b : Nat} {p v : Value} {l : List UInt8} {w : World} (h : BldAt b p v l w) (h0 : l ≠ []) :
    Calls Tryd.prog 29 #[.pointer (some ⟨b, 0, none⟩)] w fun e w' => e = .returned (.string (bs l)) ∧ Ext (fun k => some k ≠ v.ownBlock) w w' := by
  obtain ⟨hbk, hptr, hown, hne⟩ := h
  have hl0 : l.length ≠ 0 := by simpa using h0
  obtain ⟨g, cap, cur, rfl, hbg, hg, hnc, hcm, hcs, htake⟩ : ∃ g cap cur, v = .slice (some ⟨g, 0, none⟩) l.length cap ∧ 0 ≤ g ∧ w.heap[g]? = some (.cells cur 5 (0, 0)) ∧ l.length ≤ cap ∧ cap ≤ maxLen ∧ cur.size = cap * 1 ∧ cur.toList.take (l.length * 1) = Lib.byteCells l := by
    rcases hown.2 with ⟨_, hz⟩ | hr
    · exact absurd hz hl0
    · exact hr
  have u97 : Tryd.prog.underlying 97 = some (.pointer 5) := strLays.t127
  have c1 : w.drew.cell? ⟨b, 1, none⟩ = some (.slice (some ⟨g, 0, none⟩) l.length cap) := by
    have : w.drew.heap[b]? = some (.cells #[p, .slice (some ⟨g, 0, none⟩) l.length cap] 67 (0, 0)) := hbk
    rw [Lib.cell_of_heap this]; rfl
  have hSD : (Builtin.unsafeSliceData_ #[65] 97 #[.slice (some ⟨g, 0, none⟩) l.length cap]).run Tryd.prog w.drew = .ok (.pointer (some ⟨g, 0, none⟩)) w.drew := Lib.run_unsafeSliceData_row _ _ _ _ _ _ (by omega)
  have hUS : (Builtin.unsafeString_ #[97, 3] 9 #[.pointer (some ⟨g, 0, none⟩), .int .i64 l.length]).run Tryd.prog w.drew = .ok (.string ⟨l.toArray⟩) (w.drew.freeze ⟨g, 0, none⟩ l.length) := by
    refine Lib.run_unsafeString_row w.drew 97 3 9 5 u97 bldX.cellsByte g cur.size (by have hg' : w.drew.heap[g]? = some (.cells cur 5 (0, 0)) := hg; simp [World.shape?, hg']) l h0 (by omega) (by unfold maxLen at hcm; omega) ?_
    intro j x hx
    exact hown.cells (g := g) rfl j (.int .u8 x.toNat) (by simp [Lib.byteCells, hx])
  have hfin : Ext (fun k => some k ≠ (Value.slice (some ⟨g, 0, none⟩) l.length cap).ownBlock) w (w.drew.freeze ⟨g, 0, none⟩ l.length) := by
    have hb := Lib.below_freeze (B := 0) (Below.drew (Below.refl 0 w)) (p := ⟨g, 0, none⟩) (Nat.zero_le _) l.length
    refine ⟨hb.os, hb.tape, hb.output, hb.size, fun k hk => ?_⟩
    have hkg : k ≠ g := fun e => hk (by rw [e]; rfl)
    unfold World.freeze
    split
    · rfl
    · simp [Array.getElem?_modify, Ne.symm hkg]
      rfl
  have mixed := Tryd.mixed
  go_enter Tryd.func29, Tryd.ntmps29
  go_wp2
  go_region_o
  all_goals (go_wp2; go_ret; exact ⟨rfl, hfin⟩)
end Go.Fw

/-
  A builder as an object; its two functions' contracts.
-/
namespace Go.Fw
open Go Go.Proofs

def BldIs (l : List UInt8) (oa : Option Addr) (fp : Nat → Prop) (w : World) : Prop := ∃ b p v, oa = some ⟨b, 0, none⟩ ∧ fp b ∧ BldAt b p v l w ∧ ∀ k, v.ownBlock = some k → fp k
abbrev bldO (l : List UInt8) : SO := .gen (BldIs l)

theorem BldAt.kept {b : Nat} {p v : Value} {l : List UInt8} {w w' : World} (h : BldAt b p v l w) (h1 : w'.heap[b]? = w.heap[b]?) (h2 : ∀ k, v.ownBlock = some k → w'.heap[k]? = w.heap[k]?) : BldAt b p v l w' := by
  refine ⟨h1.trans h.row, h.ptr, ⟨h.own.1, ?_⟩, h.ne⟩
  rcases h.own.2 with hn | ⟨g, cap, cur, rfl, hbg, hg, hr⟩
  · exact .inl hn
  · exact .inr ⟨g, cap, cur, rfl, hbg, (h2 g rfl).trans hg, hr⟩

theorem BldIs.ok {l : List UInt8} {oa : Option Addr} {fp : Nat → Prop} {w : World} {β : Env} {Z : Nat → Prop} (h : BldIs l oa fp w) : SO.ok β Z fp w oa (bldO l) := by
  refine ⟨h, fun w' hw _ => ?_⟩
  obtain ⟨b, p, v, e, hb, hat, hk⟩ := h
  exact ⟨b, p, v, e, hb, hat.kept (hw b hb) (fun k hk2 => hw k (hk k hk2)), hk⟩

theorem write_go {β : Env} {Z : Nat → Prop} {fp : Nat → Nat → Prop} {w : World} {o : SO} (hs : HSat β Z fp ⟨[], [(0, o)], 1⟩ w) {l : List UInt8} (h : BldIs l (β 0) (fp 0) w) (s : List UInt8) (hlen : l.length + s.length ≤ 140737488355328) :
    Calls Tryd.prog 26 ([SV.c (.ptr 0 0), stV s].map (SV.den β) ++ []).toArray w fun e w' => ∃ v β' Z' fp' s', e = .returned (v.den β') ∧ Nxt β Z ⟨[], [(0, o)], 1⟩ w v w' β' Z' fp' ⟨[], s'.hp, s'.nx⟩ ∧
      (v = .tup [.c (.i s.length), .c (.v .nilIface)] ∧ s' = (⟨[], [(0, bldO (l ++ s))], 1⟩ : S)) := by
  obtain ⟨b, p, v, e, hb, hat, hk⟩ := h
  have harg : ([SV.c (.ptr 0 0), stV s].map (SV.den β) ++ []).toArray = #[Value.pointer (some ⟨b, 0, none⟩), .string (bs s)] := by
    simp [SV.den, SA.den, SC.den, e, Addr.add_lit]
  rw [harg]
  refine (write_run hat s hlen).mono ?_
  rintro e' w' ⟨rfl, v', hat', hrow, hsz, hext⟩
  have hfl := fun k hk => hs.flt 0 o rfl k hk
  have hfp : ∀ k, v'.ownBlock = some k → fp 0 k ∨ w.heap.size ≤ k := by
    intro k h'
    rcases hrow with h1 | h1 | ⟨k2, h1, h2⟩
    · rw [h1] at h'; cases h'
    · exact .inl (hk k (h1.symm.trans h'))
    · rw [h1] at h'; cases h'; exact .inr h2
  refine ⟨.tup [.c (.i s.length), .c (.v .nilIface)], β, Z, fun id k => id = 0 ∧ (fp 0 k ∨ v'.ownBlock = some k), ⟨[], [(0, bldO (l ++ s))], 1⟩, rfl, ⟨fun _ _ => rfl, ?_, fun _ h => h, rfl, Nat.le_refl _, ⟨?_, ?_, ?_, ?_, ?_⟩, ?_⟩, rfl, rfl⟩
  · refine hext.mono fun k hz => ⟨hs.zlt k hz, fun e => ?_, fun e => ?_⟩
    · subst e; exact (hfl _ hb).2 hz
    · exact (hfl k (hk k e.symm)).2 hz
  · exact ⟨hs.zlt'.1, fun k hz => Nat.lt_of_lt_of_le (hs.zlt k hz) hsz⟩
  · rintro id o' hl k ⟨rfl, hf⟩
    rcases hf with hf | hf
    · exact ⟨Nat.lt_of_lt_of_le (hfl k hf).1 hsz, (hfl k hf).2⟩
    · rcases hfp k hf with h1 | h1
      · exact ⟨Nat.lt_of_lt_of_le (hfl k h1).1 hsz, (hfl k h1).2⟩
      · exact ⟨(hat'.own.lt k hf).2, fun hz => absurd (hs.zlt k hz) (by omega)⟩
  · rintro id id' o1 o2 hl hl' hne k ⟨rfl, _⟩ ⟨rfl, _⟩
    exact hne rfl
  · intro id o' hl
    simp only [look_cons] at hl
    split at hl
    · rename_i e0
      subst e0
      cases hl
      exact BldIs.ok ⟨b, _, v', e, ⟨rfl, .inl hb⟩, hat', fun k hk' => ⟨rfl, .inr hk'⟩⟩
    · cases hl
  · intro id o' hl
    simp only [look_cons] at hl
    split at hl
    · rename_i e0
      subst e0
      cases hl
      exact ⟨Nat.one_pos, trivial⟩
    · cases hl
  · simp [SV.lt, SA.lt, SC.lt, Value.oneCell']

theorem write_c (l s : List UInt8) (hlen : l.length + s.length ≤ 140737488355328) :
    Ct Tryd.prog 26 [.c (.ptr 0 0), stV s] [] [(0, bldO l)] 1 (fun v s' => v = .tup [.c (.i s.length), .c (.v .nilIface)] ∧ s' = ⟨[], [(0, bldO (l ++ s))], 1⟩) :=
  fun _ _ _ _ hs => write_go hs (hs.obj 0 _ rfl).1 s hlen

theorem write0_c (s : List UInt8) (hlen : s.length ≤ 140737488355328) :
    Ct Tryd.prog 26 [.c (.ptr 0 0), stV s] [] [(0, .box 67 [.v (.pointer none), .v (.slice none 0 0)])] 1 (fun v s' => v = .tup [.c (.i s.length), .c (.v .nilIface)] ∧ s' = ⟨[], [(0, bldO s)], 1⟩) := by
  intro β Z fp w hs
  obtain ⟨b, e, hb, hh⟩ := hs.obj 0 _ rfl
  have := write_go hs (l := []) ⟨b, .pointer none, .slice none 0 0, e, hb, ⟨hh, .inl rfl, World.ownsRow_nil _ _ _ _, by simp [Value.ownBlock]⟩, fun k hk => by cases hk⟩ s (by simpa using hlen)
  rwa [List.nil_append] at this

theorem string_c (l : List UInt8) (h0 : l ≠ []) : Ct Tryd.prog 29 [.c (.ptr 0 0)] [] [(0, bldO l)] 1 (fun v s' => v = stV l ∧ s' = ⟨[], [], 1⟩) := by
  intro β Z fp w hs
  obtain ⟨b, p, v, e, hb, hat, hk⟩ := (hs.obj 0 _ rfl).1
  have harg : ([SV.c (.ptr 0 0)].map (SV.den β) ++ []).toArray = #[Value.pointer (some ⟨b, 0, none⟩)] := by
    simp [SV.den, SA.den, SC.den, e, Addr.add_lit]
  rw [harg]
  refine (string_run hat h0).mono ?_
  rintro e' w' ⟨rfl, hext⟩
  have hfl := fun k hk => hs.flt 0 _ rfl k hk
  refine ⟨stV l, β, Z, fun _ _ => False, ⟨[], [], 1⟩, rfl, ⟨fun _ _ => rfl, ?_, fun _ h => h, rfl, Nat.le_refl _, ⟨?_, ?_, ?_, ?_, ?_⟩, ?_⟩, rfl, rfl⟩
  · exact hext.mono fun k hz e => (hfl k (hk k e.symm)).2 hz
  · exact ⟨hs.zlt'.1, fun k hz => Nat.lt_of_lt_of_le (hs.zlt k hz) hext.size⟩
  · rintro id o' hl; cases hl
  · rintro id id' o1 o2 hl; cases hl
  · intro id o' hl; cases hl
  · intro id o' hl; cases hl
  · simp [SV.lt, SA.lt, SC.lt, Value.oneCell']
end Go.Fw

/-
  The reference's digits of a number.
-/
namespace Go.Fw
open Go Go.Proofs Go.RowKit

end Go.Fw

/-
  The reference's digits of a number: Digits.
-/
namespace Go.Fw
open Go Go.Proofs

attribute [simp] Value.oneCell' mk_bs

theorem itoa_len21 {n : Int} (h0 : 0 ≤ n) (h1 : n ≤ 9223372036854775807) : (Lib.itoa n).length ≤ 21 := Lib.itoa_length_le n (by omega) h1

end Go.Fw

/-
  line: numbers behind a word.
-/
namespace Go.Fw
open Go Go.Proofs

/-- What stands ahead of a number. -/
def gapL (word : List UInt8) (k : Nat) : List UInt8 := if 0 < k ∨ word ≠ [] then [32] else []
/-- The line so far. -/
def lnK (word : List UInt8) (ns : List Int) : Nat → List UInt8
  | 0 => word
  | k + 1 => lnK word ns k ++ gapL word k ++ Lib.itoa (ns.getD k 0)
def lnF (word : List UInt8) (ns : List Int) : List UInt8 := lnK word ns ns.length ++ [10]

theorem gapL_len (word : List UInt8) (k : Nat) : (gapL word k).length ≤ 1 := by
  unfold gapL
  split <;> simp
theorem lnK_len {word : List UInt8} {ns : List Int} (hn : ∀ n ∈ ns, 0 ≤ n ∧ n ≤ 9223372036854775807) : ∀ k : Nat, k ≤ ns.length → (lnK word ns k).length ≤ word.length + 22 * k
  | 0, _ => by simp [lnK]
  | k + 1, hk => by
    have h1 := lnK_len hn (word := word) k (by omega)
    have h2 := hn _ (getD_mem ns k 0 (by omega))
    have h3 := itoa_len21 h2.1 h2.2
    have h4 := gapL_len word k
    simp only [lnK, List.length_append]
    omega

set_option maxHeartbeats 16000000 in
set_option maxRecDepth 20000 in
theorem line_c (g : Glo) (hg : GloX g) (word : List UInt8) (ns : List Int) (cap : Nat) (hw : word.length ≤ 100) (hl : ns.length ≤ 100) (hn : ∀ n ∈ ns, 0 ≤ n ∧ n ≤ 9223372036854775807) :
    Ct Tryd.prog 28 [stV word, .c (.sl 0 1 0 ns.length cap)] [] [(0, .arr false 3 .int ns 0), (1, gloO g)] 2 (fun v s => v = stV (lnF word ns) ∧ s = ⟨[], [(1, gloO g)], 2⟩) := by
  refine ctW Tryd.tyOk 8 [9, 10, 11] Tryd.func28 rfl (by simp) (by simp) (fr := [(0, stV word), (1, .c (.sl 0 1 0 ns.length cap))]) rfl ?_
  repeat' (first | exact rfl | ((conv => whnf); first | (refine qX (fun h => ?_) fun h => ?_ <;> try exact absurd h (by omega)) | refine oN ?_ | refine oM ?_ ?_ | refine bM ?_ ?_ | refine dR ?_))
  (conv => whnf)
  refine loopI (fun k : Nat => ⟨[(0, stV word), (5, stV (lnK word ns k)), (9, .c (.sl 0 1 0 ns.length cap)), (10, .i ns.length), (11, .i k)], [(0, .arr false 3 .int ns 0), (1, gloO g)], 2⟩)
    (fun k => k ≤ ns.length) (fun k => ns.length - k) 0 [] ⟨by rfl, ?_, ?_⟩ (Nat.zero_le _) ?_
  · simp [lnK]
  · simp [gloO]
  · intro k hk
    have hkl := lnK_len hn (word := word) k hk
    (conv => whnf)
    refine condP_dec (fun hk2 => ?_) (fun hk2 => ?_)
    · have hr := hn _ (getD_mem ns k 0 (by omega))
      have e0 : 0 + (k : Int).toNat = k := by omega
      have hi := itoa_len21 hr.1 hr.2
      have hs : lnK word ns (k + 1) = lnK word ns k ++ gapL word k ++ Lib.itoa (ns.getD k 0) := rfl
      generalize hx : lnK word ns k = x at *
      have hv : ns.getD (0 + (k : Int).toNat) EK.int.dflt = ns.getD k 0 := by rw [e0]; rfl
      have hend : ∀ gp : List UInt8, gapL word k = gp → bs (lnK word ns (k + 1)) = bs x ++ bs gp ++ bs (Lib.itoa (ns.getD k 0)) := fun gp h => by rw [hs, h, bs_app, bs_app]
      clear hs
      repeat' (first | exact rfl | ((conv => whnf); first | (refine qX (fun h => ?_) fun h => ?_ <;> try exact absurd h (by omega)) | refine oN ?_ | refine oM ?_ ?_ | refine bM ?_ ?_ | refine dR ?_))
      · (conv => whnf)
        rw [hv]
        refine cF (itoa_c g hg (ns.getD k 0) (by omega) (by omega)) [1] Tryd.call27 ?_
        rintro _ _ ⟨rfl, rfl⟩
        repeat' (first | exact rfl | ((conv => whnf); first | (refine qX (fun h => ?_) fun h => ?_ <;> try exact absurd h (by omega)) | refine oN ?_ | refine oM ?_ ?_ | refine bM ?_ ?_ | refine dR ?_))
        (conv => whnf)
        refine ⟨k + 1, [], ⟨by rfl, ?_, ?_⟩, by omega, by omega⟩
        · have := hend [32] (by unfold gapL; rw [if_pos (.inl (by omega))])
          simp [this, mk_bs]
        · simp [gloO]
      · rw [bs_data] at h
        (conv => whnf)
        rw [hv]
        refine cF (itoa_c g hg (ns.getD k 0) (by omega) (by omega)) [1] Tryd.call27 ?_
        rintro _ _ ⟨rfl, rfl⟩
        repeat' (first | exact rfl | ((conv => whnf); first | (refine qX (fun h => ?_) fun h => ?_ <;> try exact absurd h (by omega)) | refine oN ?_ | refine oM ?_ ?_ | refine bM ?_ ?_ | refine dR ?_))
        (conv => whnf)
        refine ⟨k + 1, [], ⟨by rfl, ?_, ?_⟩, by omega, by omega⟩
        · have := hend [32] (by unfold gapL; rw [if_pos (.inr h)])
          simp [this, mk_bs]
        · simp [gloO]
      · rw [bs_data] at h
        (conv => whnf)
        rw [hv]
        refine cF (itoa_c g hg (ns.getD k 0) (by omega) (by omega)) [1] Tryd.call27 ?_
        rintro _ _ ⟨rfl, rfl⟩
        repeat' (first | exact rfl | ((conv => whnf); first | (refine qX (fun h => ?_) fun h => ?_ <;> try exact absurd h (by omega)) | refine oN ?_ | refine oM ?_ ?_ | refine bM ?_ ?_ | refine dR ?_))
        (conv => whnf)
        refine ⟨k + 1, [], ⟨by rfl, ?_, ?_⟩, by omega, by omega⟩
        · have := hend [] (by unfold gapL; rw [if_neg (by rintro (h1 | h1) <;> first | omega | exact h1 h)])
          rw [show bs x ++ bs [] = bs x by rw [bs_app, List.append_nil]] at this
          simp [this, mk_bs]
        · simp [gloO]
    · have e : k = ns.length := by omega
      subst e
      repeat' (first | exact rfl | ((conv => whnf); first | (refine qX (fun h => ?_) fun h => ?_ <;> try exact absurd h (by omega)) | refine oN ?_ | refine oM ?_ ?_ | refine bM ?_ ?_ | refine dR ?_))
      (conv => whnf)
      exact ⟨[], [(1, gloO g)], 2, stV (lnF word ns), ⟨by rfl, trivial, by simp [gloO]⟩, by simp [lnF, mk_bs, bs_app], rfl, rfl⟩
end Go.Fw

/-
  Print.
-/
namespace Go.Fw
open Go Go.Proofs

def tStates : List UInt8 := [115, 116, 97, 116, 101, 115, 32]
def tStart : List UInt8 := [32, 115, 116, 97, 114, 116, 32]
def tFinal : List UInt8 := [102, 105, 110, 97, 108]
def hdL (st sa : Int) : List UInt8 := tStates ++ Lib.itoa st ++ tStart ++ Lib.itoa sa ++ [10]
def finsK (fin : List Int) : Nat → List UInt8
  | 0 => []
  | k + 1 => finsK fin k ++ (if fin.getD k 0 ≠ -1 then lnF tFinal [(k : Int), fin.getD k 0] else [])
def arcL (a : Arc) : List Int := [a.f, a.i, a.o, a.t, a.w]
def arcsK (arcs : List Arc) : Nat → List UInt8
  | 0 => []
  | k + 1 => arcsK arcs k ++ lnF [] (arcL (arcs.getD k aD))
/-- What is printed. -/
def prF (F : TF) : List UInt8 := hdL F.st F.start ++ finsK F.fin F.fin.length ++ arcsK F.arcs F.arcs.length

theorem lnF_len {word : List UInt8} {ns : List Int} (hn : ∀ n ∈ ns, 0 ≤ n ∧ n ≤ 9223372036854775807) : (lnF word ns).length ≤ word.length + 22 * ns.length + 1 := by
  have := lnK_len hn (word := word) ns.length (Nat.le_refl _)
  simp only [lnF, List.length_append, List.length_cons, List.length_nil]
  omega
theorem hdL_len {st sa : Int} (h1 : 0 ≤ st ∧ st ≤ 1000) (h2 : 0 ≤ sa ∧ sa ≤ 1000) : (hdL st sa).length ≤ 100 := by
  have a1 := itoa_len21 h1.1 (by omega)
  have a2 := itoa_len21 h2.1 (by omega)
  simp only [hdL, tStates, tStart, List.length_append, List.length_cons, List.length_nil]
  omega
theorem finsK_len {fin : List Int} (hf : ∀ n ∈ fin, -1 ≤ n ∧ n ≤ 1000000000) (hl : fin.length ≤ 1000) : ∀ k : Nat, k ≤ fin.length → (finsK fin k).length ≤ 100 * k
  | 0, _ => by simp [finsK]
  | k + 1, hk => by
    have h1 := finsK_len hf hl k (by omega)
    have h2 := hf _ (getD_mem fin k 0 (by omega))
    simp only [finsK, List.length_append]
    split
    · rename_i h
      have := lnF_len (word := tFinal) (ns := [(k : Int), fin.getD k 0]) (by
        intro n hn
        simp only [List.mem_cons, List.not_mem_nil, or_false] at hn
        rcases hn with rfl | rfl
        · omega
        · omega)
      have h5 : tFinal.length = 5 := rfl
      simp only [List.length_cons, List.length_nil] at this
      omega
    · simp only [List.length_nil]; omega
theorem arcsK_len {arcs : List Arc} (ha : ∀ a ∈ arcs, ∀ n ∈ arcL a, 0 ≤ n ∧ n ≤ 9223372036854775807) : ∀ k : Nat, k ≤ arcs.length → (arcsK arcs k).length ≤ 200 * k
  | 0, _ => by simp [arcsK]
  | k + 1, hk => by
    have h1 := arcsK_len ha k (by omega)
    have h2 := lnF_len (word := []) (ha _ (getD_mem arcs k aD (by omega)))
    simp only [arcL, List.length_cons, List.length_nil] at h2
    simp only [arcsK, List.length_append]
    unfold arcL
    omega

set_option maxHeartbeats 16000000 in
set_option maxRecDepth 20000 in
theorem print_c (g : Glo) (hg : GloX g) (F : TF) (hl : F.fin.length ≤ 9223372036854775807) :
    Ct Tryd.prog 12 [fV F] [] (hpF F ++ [(2, gloO g)]) 3 (fun v s => v = .tup [.c (stC (if fstE F = 0 then prF F else [])), .c (.i (fstE F))] ∧ s = ⟨[], [(2, gloO g)], 3⟩) := by
  refine ctW Tryd.tyOk 10 [27, 28, 29, 43, 44, 45] Tryd.func12 rfl (by simp) (by simp) (fr := [(0, fV F)]) rfl ?_
  repeat' (first | exact rfl | ((conv => whnf); first | (refine qX (fun h => ?_) fun h => ?_ <;> try exact absurd h (by omega)) | refine oN ?_ | refine oM ?_ ?_ | refine bM ?_ ?_ | refine dR ?_))
  (conv => whnf)
  refine cI (check_c F hl) [0, 1] Tryd.call16 ?_
  repeat' (first | exact rfl | ((conv => whnf); first | (refine qX (fun h => ?_) fun h => ?_ <;> try exact absurd h (by omega)) | refine oN ?_ | refine oM ?_ ?_ | refine bM ?_ ?_ | refine dR ?_))
  · (conv => whnf)
    exact ⟨[], [(2, gloO g)], 3, .tup [.c (stC []), .c (.i (fstE F))], ⟨by rfl, trivial, by simp [gloO]⟩, by simp, by rw [if_neg h], rfl⟩
  have hF := fstE_ok h
  have hst := hF.st
  have hsa := hF.start
  have hfl := hF.finl
  have hfin := hF.fin
  have hal := hF.arcl
  have i1 := itoa_len21 (n := F.st) (by omega) (by omega)
  have i2 := itoa_len21 (n := F.start) (by omega) (by omega)
  have hh := hdL_len (st := F.st) (sa := F.start) (by omega) (by omega)
  have h0 : (Lib.itoa F.st).length ≤ 21 := i1
  (conv => whnf)
  refine cF (itoa_c g hg F.st (by omega) (by omega)) [2] Tryd.call27 ?_
  rintro _ _ ⟨rfl, rfl⟩
  repeat' (first | exact rfl | ((conv => whnf); first | (refine qX (fun h => ?_) fun h => ?_ <;> try exact absurd h (by omega)) | refine oN ?_ | refine oM ?_ ?_ | refine bM ?_ ?_ | refine dR ?_))
  (conv => whnf)
  refine cF (itoa_c g hg F.start (by omega) (by omega)) [2] Tryd.call27 ?_
  rintro _ _ ⟨rfl, rfl⟩
  repeat' (first | exact rfl | ((conv => whnf); first | (refine qX (fun h => ?_) fun h => ?_ <;> try exact absurd h (by omega)) | refine oN ?_ | refine oM ?_ ?_ | refine bM ?_ ?_ | refine dR ?_))
  (conv => whnf)
  refine callF (write0_c (hdL F.st F.start) (by omega)) [4] Tryd.call26 rfl (by simp [hdL, tStates, tStart, bs_app]) (by simp [hdL, tStates, tStart, bs_app]) (by simp) ?_
  rintro _ _ ⟨rfl, rfl⟩
  simp only [Nat.reduceAdd, Nat.reduceSub]
  generalize hhd : hdL F.st F.start = hd at *
  repeat' (first | exact rfl | ((conv => whnf); first | (refine qX (fun h => ?_) fun h => ?_ <;> try exact absurd h (by omega)) | refine oN ?_ | refine oM ?_ ?_ | refine bM ?_ ?_ | refine dR ?_))
  (conv => whnf)
  refine loopI (fun k : Nat => ⟨[(1, .c (.ptr 3 0)), (5, .c (.ptr 4 0)), (27, .c (.sl 0 1 0 F.fin.length F.capF)), (28, .i F.fin.length), (29, .i k)], hpF F ++ [(2, gloO g), (3, .box 25 (fCells F)), (4, bldO (hd ++ finsK F.fin k))], 5⟩)
    (fun k => k ≤ F.fin.length) (fun k => F.fin.length - k) 0 [] ⟨by rfl, ?_, ?_⟩ (Nat.zero_le _) ?_
  · simp
  · simp [fCells, finsK]
  · intro k hk
    have hkl := finsK_len hfin (by omega) k hk
    (conv => whnf)
    refine condP_dec (fun hk2 => ?_) (fun hk2 => ?_)
    · have hr := hfin _ (getD_mem F.fin k 0 (by omega))
      have hv : F.fin.getD (0 + (k : Int).toNat) EK.int.dflt = F.fin.getD k 0 := by rw [show 0 + (k : Int).toNat = k by omega]; rfl
      have hs : finsK F.fin (k + 1) = finsK F.fin k ++ (if F.fin.getD k 0 ≠ -1 then lnF tFinal [(k : Int), F.fin.getD k 0] else []) := rfl
      generalize hx : finsK F.fin k = x at *
      repeat' (first | exact rfl | ((conv => whnf); first | (refine qX (fun h => ?_) fun h => ?_ <;> try exact absurd h (by omega)) | refine oN ?_ | refine oM ?_ ?_ | refine bM ?_ ?_ | refine dR ?_))
      · rw [hv] at h
        have hln : ∀ n ∈ [(k : Int), F.fin.getD k 0], 0 ≤ n ∧ n ≤ 9223372036854775807 := by
          intro n hn
          simp only [List.mem_cons, List.not_mem_nil, or_false] at hn
          rcases hn with rfl | rfl
          · omega
          · omega
        have hll := lnF_len (word := tFinal) hln
        have h5 : tFinal.length = 5 := rfl
        simp only [List.length_cons, List.length_nil] at hll
        rw [if_pos h] at hs
        (conv => whnf)
        rw [hv]
        refine callF (line_c g hg tFinal [(k : Int), F.fin.getD k 0] 2 (by omega) (by simp) hln) [5, 2] Tryd.call28 rfl (by simp [tFinal]) (by simp [tFinal]) (by simp) ?_
        rintro _ _ ⟨rfl, rfl⟩
        generalize hln2 : lnF tFinal [(k : Int), F.fin.getD k 0] = ln at *
        repeat' (first | exact rfl | ((conv => whnf); first | (refine qX (fun h => ?_) fun h => ?_ <;> try exact absurd h (by omega)) | refine oN ?_ | refine oM ?_ ?_ | refine bM ?_ ?_ | refine dR ?_))
        (conv => whnf)
        have hbl : (hd ++ x).length + ln.length ≤ 140737488355328 := by rw [List.length_append]; omega
        refine cF (write_c (hd ++ x) ln hbl) [4] Tryd.call26 ?_
        rintro _ _ ⟨rfl, rfl⟩
        repeat' (first | exact rfl | ((conv => whnf); first | (refine qX (fun h => ?_) fun h => ?_ <;> try exact absurd h (by omega)) | refine oN ?_ | refine oM ?_ ?_ | refine bM ?_ ?_ | refine dR ?_))
        (conv => whnf)
        refine ⟨k + 1, [], ⟨by rfl, ?_, ?_⟩, by omega, by omega⟩
        · simp
        · simp [fCells, hs]
      · rw [hv] at h
        rw [if_neg (fun h2 => h2 h), List.append_nil] at hs
        (conv => whnf)
        refine ⟨k + 1, [], ⟨by rfl, ?_, ?_⟩, by omega, by omega⟩
        · simp
        · simp [fCells, hs]
    · have e : k = F.fin.length := by omega
      subst e
      generalize hfx : finsK F.fin F.fin.length = fx at *
      repeat' (first | exact rfl | ((conv => whnf); first | (refine qX (fun h => ?_) fun h => ?_ <;> try exact absurd h (by omega)) | refine oN ?_ | refine oM ?_ ?_ | refine bM ?_ ?_ | refine dR ?_))
      (conv => whnf)
      refine loopI (fun k : Nat => ⟨[(1, .c (.ptr 3 0)), (5, .c (.ptr 4 0)), (43, .c (.sl 1 5 0 F.arcs.length F.capA)), (44, .i F.arcs.length), (45, .i k)], hpF F ++ [(2, gloO g), (3, .box 25 (fCells F)), (4, bldO (hd ++ fx ++ arcsK F.arcs k))], 5⟩)
        (fun k => k ≤ F.arcs.length) (fun k => F.arcs.length - k) 0 [] ⟨by rfl, ?_, ?_⟩ (Nat.zero_le _) ?_
      · simp
      · simp [fCells, arcsK]
      · intro k hk
        have harc : ∀ a ∈ F.arcs, ∀ n ∈ arcL a, 0 ≤ n ∧ n ≤ 9223372036854775807 := by
          intro a ha n hn
          obtain ⟨q1, q2, q3, q4, q5, q6, q7, q8⟩ := hF.arc a ha
          simp only [arcL, List.mem_cons, List.not_mem_nil, or_false] at hn
          rcases hn with rfl | rfl | rfl | rfl | rfl <;> omega
        have hal2 := arcsK_len harc k hk
        (conv => whnf)
        refine condP_dec (fun hk2 => ?_) (fun hk2 => ?_)
        · have hln := harc _ (getD_mem F.arcs k aD (by omega))
          have hv : F.arcs.getD (0 + (k : Int).toNat) EK.arc.dflt = F.arcs.getD k aD := by rw [show 0 + (k : Int).toNat = k by omega]; rfl
          have hs : arcsK F.arcs (k + 1) = arcsK F.arcs k ++ lnF [] (arcL (F.arcs.getD k aD)) := rfl
          have hll := lnF_len (word := []) hln
          have h5 : (arcL (F.arcs.getD k aD)).length = 5 := rfl
          simp only [List.length_nil] at hll
          generalize hx : arcsK F.arcs k = x at *
          generalize hae : F.arcs.getD k aD = a at *
          repeat' (first | exact rfl | ((conv => whnf); first | (refine qX (fun h => ?_) fun h => ?_ <;> try exact absurd h (by omega)) | refine oN ?_ | refine oM ?_ ?_ | refine bM ?_ ?_ | refine dR ?_))
          (conv => whnf)
          rw [hv]
          refine callF (line_c g hg [] (arcL a) 5 (by simp) (by omega) hln) [6, 2] Tryd.call28 rfl (by simp [arcL]) (by simp [arcL]) (by simp) ?_
          rintro _ _ ⟨rfl, rfl⟩
          generalize hln2 : lnF [] (arcL a) = ln at *
          repeat' (first | exact rfl | ((conv => whnf); first | (refine qX (fun h => ?_) fun h => ?_ <;> try exact absurd h (by omega)) | refine oN ?_ | refine oM ?_ ?_ | refine bM ?_ ?_ | refine dR ?_))
          (conv => whnf)
          have hbl : (hd ++ fx ++ x).length + ln.length ≤ 140737488355328 := by
            have := finsK_len hfin (by omega) F.fin.length (Nat.le_refl _)
            rw [hfx] at this
            rw [List.length_append, List.length_append]
            omega
          refine cF (write_c (hd ++ fx ++ x) ln hbl) [4] Tryd.call26 ?_
          rintro _ _ ⟨rfl, rfl⟩
          repeat' (first | exact rfl | ((conv => whnf); first | (refine qX (fun h => ?_) fun h => ?_ <;> try exact absurd h (by omega)) | refine oN ?_ | refine oM ?_ ?_ | refine bM ?_ ?_ | refine dR ?_))
          (conv => whnf)
          refine ⟨k + 1, [], ⟨by rfl, ?_, ?_⟩, by omega, by omega⟩
          · simp
          · simp [fCells, hs]
        · have e : k = F.arcs.length := by omega
          subst e
          have hne : hd ++ fx ++ arcsK F.arcs F.arcs.length ≠ [] := by
            rw [← hhd]
            simp [hdL, tStates]
          have hpr : prF F = hd ++ fx ++ arcsK F.arcs F.arcs.length := by
            unfold prF
            rw [hhd, hfx]
          repeat' (first | exact rfl | ((conv => whnf); first | (refine qX (fun h => ?_) fun h => ?_ <;> try exact absurd h (by omega)) | refine oN ?_ | refine oM ?_ ?_ | refine bM ?_ ?_ | refine dR ?_))
          (conv => whnf)
          refine cF (string_c _ hne) [4] Tryd.call29 ?_
          rintro _ _ ⟨rfl, rfl⟩
          repeat' (first | exact rfl | ((conv => whnf); first | (refine qX (fun h => ?_) fun h => ?_ <;> try exact absurd h (by omega)) | refine oN ?_ | refine oM ?_ ?_ | refine bM ?_ ?_ | refine dR ?_))
          (conv => whnf)
          exact ⟨[], [(2, gloO g)], 3, .tup [.c (stC (hd ++ fx ++ arcsK F.arcs F.arcs.length)), .c (.i 0)], ⟨by rfl, trivial, by simp [gloO]⟩, by simp, by rw [if_pos h, hpr, h], rfl⟩
end Go.Fw

/-
  numbers: of words, as many as there must be.
-/
namespace Go.Fw
open Go Go.Proofs

/-- The number that a word is. -/
def numO (x : List UInt8) : Option Int := match Lib.atoiAll x with
  | .ok n => if x.length ≤ 10 ∧ 0 ≤ n ∧ Lib.itoa n = x then some n else none
  | _ => none
def numsO : List (List UInt8) → Option (List Int)
  | [] => some []
  | x :: l => match numO x, numsO l with
    | some n, some ns => some (n :: ns)
    | _, _ => none

theorem numsO_cons (x : List UInt8) (l : List (List UInt8)) : numsO (x :: l) = match numO x, numsO l with
    | some n, some ns => some (n :: ns)
    | _, _ => none := rfl
theorem numsO_snoc (x : List UInt8) : ∀ l : List (List UInt8), numsO (l ++ [x]) = match numsO l, numO x with
    | some ns, some n => some (ns ++ [n])
    | _, _ => none
  | [] => by
    rw [List.nil_append, numsO_cons]
    cases numO x <;> rfl
  | y :: l => by
    rw [List.cons_append, numsO_cons, numsO_cons, numsO_snoc x l]
    cases numO y <;> cases numsO l <;> cases numO x <;> rfl
theorem numsO_bad {x : List UInt8} (h : numO x = none) : ∀ l : List (List UInt8), x ∈ l → numsO l = none
  | y :: l, hx => by
    rw [numsO_cons]
    rcases List.mem_cons.1 hx with rfl | hx
    · rw [h]
    · rw [numsO_bad h l hx]
      cases numO y <;> rfl
theorem numsO_len : ∀ {l : List (List UInt8)} {ns : List Int}, numsO l = some ns → ns.length = l.length
  | [], ns, h => by cases h; rfl
  | x :: l, ns, h => by
    rw [numsO_cons] at h
    cases hx : numO x with
    | none => rw [hx] at h; cases h
    | some n =>
      cases hl : numsO l with
      | none => rw [hx, hl] at h; cases h
      | some ms => rw [hx, hl] at h; cases h; simp [numsO_len hl]
theorem numO_rng {x : List UInt8} {n : Int} (h : numO x = some n) : 0 ≤ n ∧ n ≤ 9223372036854775807 := by
  unfold numO at h
  split at h
  · rename_i m hm
    split at h
    · rename_i hc
      cases h
      exact ⟨hc.2.1, (Lib.atoiAll_bounds hm).2⟩
    · cases h
  · cases h
theorem numsO_rng : ∀ {l : List (List UInt8)} {ns : List Int}, numsO l = some ns → ∀ n ∈ ns, 0 ≤ n ∧ n ≤ 9223372036854775807
  | [], ns, h => by cases h; simp
  | x :: l, ns, h => by
    rw [numsO_cons] at h
    cases hx : numO x with
    | none => rw [hx] at h; cases h
    | some n =>
      cases hl : numsO l with
      | none => rw [hx, hl] at h; cases h
      | some ms =>
        rw [hx, hl] at h
        cases h
        intro m hm
        rcases List.mem_cons.1 hm with rfl | hm
        · exact numO_rng hx
        · exact numsO_rng hl m hm

theorem mapbs_getD (l : List (List UInt8)) (i : Nat) : (l.map bs).getD i EK.str.dflt = bs (l.getD i []) := by
  simp only [List.getD_eq_getElem?_getD, List.getElem?_map]
  cases l[i]? <;> rfl

/-- What numbers answers. -/
def NumPost (g : Glo) (l : List (List UInt8)) (many : Int) (v : SV) (s : S) : Prop :=
  (∃ ns sp, numsO l = some ns ∧ (l.length : Int) = many ∧ v = .tup [.c (.sl 2 1 0 ns.length (ns.length + sp)), .c (.b true)] ∧ s = ⟨[], [(1, gloO g), (2, .arr true 3 .int ns sp)], 3⟩) ∨
  ((numsO l = none ∨ (l.length : Int) ≠ many) ∧ v = .tup [.c (.v (.slice none 0 0)), .c (.b false)] ∧ s = ⟨[], [(1, gloO g)], 2⟩)

set_option maxHeartbeats 16000000 in
set_option maxRecDepth 20000 in
theorem numbers_c (g : Glo) (hg : GloX g) (LL : List (List UInt8)) (lo len cap : Nat) (many : Int) (hlo : lo + len ≤ LL.length) (hm : 0 < many) (hsz : ∀ x ∈ LL, x.length ≤ 1000000) (hL : LL.length ≤ 1000000) :
    Ct Tryd.prog 59 [.c (.sl 0 1 lo len cap), .i many] [] [(0, .arr false 9 .str (LL.map bs) 0), (1, gloO g)] 2 (NumPost g ((LL.drop lo).take len) many) := by
  have hll : ((LL.drop lo).take len).length = len := by simp; omega
  refine ctW Tryd.tyOk 11 [15, 16, 17] Tryd.func59 rfl (by simp) (by simp) (fr := [(0, .c (.sl 0 1 lo len cap)), (1, .i many)]) rfl ?_
  repeat' (first | exact rfl | ((conv => whnf); first | (refine qX (fun h => ?_) fun h => ?_ <;> try exact absurd h (by omega)) | refine oN ?_ | refine oM ?_ ?_ | refine bM ?_ ?_ | refine dR ?_))
  · (conv => whnf)
    exact ⟨[], [(1, gloO g)], 2, .tup [.c (.v (.slice none 0 0)), .c (.b false)], ⟨by rfl, trivial, by simp [gloO]⟩, by simp, .inr ⟨.inr (by rw [hll]; exact h), rfl, rfl⟩⟩
  (conv => whnf)
  refine loopI (fun z : Nat × List Int × Nat => ⟨[(0, .c (.sl 0 1 lo len cap)), (6, .c (.sl 2 1 0 z.2.1.length (z.2.1.length + z.2.2))), (15, .c (.sl 0 1 lo len cap)), (16, .i len), (17, .i z.1)], [(0, .arr false 9 .str (LL.map bs) 0), (1, gloO g), (2, .arr true 3 .int z.2.1 z.2.2)], 3⟩)
    (fun z => z.1 ≤ len ∧ numsO ((LL.drop lo).take z.1) = some z.2.1) (fun z => len - z.1) (0, [], 0) [(2, none)] ⟨by rfl, ?_, ?_⟩ ⟨Nat.zero_le _, by simp [numsO]⟩ ?_
  · simp
  · simp [gloO, nilO]
  · rintro ⟨k, ns, sp⟩ ⟨hk, hns⟩
    simp only at hk hns ⊢
    (conv => whnf)
    refine condP_dec (fun hk2 => ?_) (fun hk2 => ?_)
    · have hv : (LL.map bs).getD (lo + (k : Int).toNat) EK.str.dflt = bs (LL.getD (lo + k) []) := by rw [show lo + (k : Int).toNat = lo + k by omega, mapbs_getD]
      have hx1 := hsz _ (getD_mem LL (lo + k) [] (by omega))
      have hnl := numsO_len hns
      have hxm : LL.getD (lo + k) [] ∈ (LL.drop lo).take len := by
        rw [List.mem_iff_getElem?]
        refine ⟨k, ?_⟩
        rw [List.getElem?_take_of_lt (by omega), List.getElem?_drop, List.getD_eq_getElem?_getD, List.getElem?_eq_getElem (by omega)]
        rfl
      have hsn : (LL.drop lo).take (k + 1) = (LL.drop lo).take k ++ [LL.getD (lo + k) []] := by
        rw [List.take_add_one, List.getElem?_drop, List.getD_eq_getElem?_getD, List.getElem?_eq_getElem (by omega)]
        rfl
      have hkl : ((LL.drop lo).take k).length = k := by simp; omega
      generalize hx : LL.getD (lo + k) [] = x at *
      have bad : numO x = none → numsO ((LL.drop lo).take len) = none := fun h => numsO_bad h _ hxm
      have hbx := bs_size x
      repeat' (first | exact rfl | ((conv => whnf); first | (refine qX (fun h => ?_) fun h => ?_ <;> try exact absurd h (by omega)) | refine oN ?_ | refine oM ?_ ?_ | refine bM ?_ ?_ | refine dR ?_))
      (conv => whnf)
      rw [hv]
      refine cF (atoi_c g hg x hx1) [1] Tryd.call71 ?_
      rintro _ _ ⟨n, e, rfl, hi, rfl⟩
      rcases hi with ⟨hok, rfl⟩ | ⟨hno, t, a, rfl⟩
      · have hnb := Lib.atoiAll_bounds hok
        have hnum : numO x = if x.length ≤ 10 ∧ 0 ≤ n ∧ Lib.itoa n = x then some n else none := by unfold numO; rw [hok]
        repeat' (first | exact rfl | ((conv => whnf); first | (refine qX (fun h => ?_) fun h => ?_ <;> try exact absurd h (by omega)) | refine oN ?_ | refine oM ?_ ?_ | refine bM ?_ ?_ | refine dR ?_))
        · (conv => whnf)
          exact ⟨[], [(1, gloO g)], 2, .tup [.c (.v (.slice none 0 0)), .c (.b false)], ⟨by rfl, trivial, by simp [gloO]⟩, by simp, .inr ⟨.inl (bad (by rw [hnum, if_neg (fun c => by omega)])), rfl, rfl⟩⟩
        · (conv => whnf)
          exact ⟨[], [(1, gloO g)], 2, .tup [.c (.v (.slice none 0 0)), .c (.b false)], ⟨by rfl, trivial, by simp [gloO]⟩, by simp, .inr ⟨.inl (bad (by rw [hnum, if_neg (fun c => by omega)])), rfl, rfl⟩⟩
        (conv => whnf)
        refine cF (itoa_c g hg n hnb.1 hnb.2) [1] Tryd.call27 ?_
        rintro _ _ ⟨rfl, rfl⟩
        repeat' (first | exact rfl | ((conv => whnf); first | (refine qX (fun h => ?_) fun h => ?_ <;> try exact absurd h (by omega)) | refine oN ?_ | refine oM ?_ ?_ | refine bM ?_ ?_ | refine dR ?_))
        · rw [bs_data, bs_data] at h
          (conv => whnf)
          exact ⟨[], [(1, gloO g)], 2, .tup [.c (.v (.slice none 0 0)), .c (.b false)], ⟨by rfl, trivial, by simp [gloO]⟩, by simp, .inr ⟨.inl (bad (by rw [hnum, if_neg (fun c => h c.2.2)])), rfl, rfl⟩⟩
        · rw [bs_data, bs_data] at h
          have hsome : numO x = some n := by rw [hnum, if_pos ⟨by omega, by omega, h⟩]
          (conv => whnf)
          intro sp2
          repeat' (first | exact rfl | ((conv => whnf); first | (refine qX (fun h => ?_) fun h => ?_ <;> try exact absurd h (by omega)) | refine oN ?_ | refine oM ?_ ?_ | refine bM ?_ ?_ | refine dR ?_))
          (conv => whnf)
          simp only [Nat.reduceAdd, Nat.reduceSub]
          refine ⟨(k + 1, ns ++ [n], sp2), [(2, some 4)], ⟨by rfl, ?_, ?_⟩, ⟨by simp only; omega, ?_⟩, by simp only; omega⟩
          · simp [List.length_append]
          · simp [gloO, lOp.appL, sub]
          · simp only
            rw [hsn, numsO_snoc, hns, hsome]
      · have hnone : numO x = none := by
          unfold numO
          split
          · rename_i m hm; exact absurd hm (hno m)
          · rfl
        repeat' (first | exact rfl | ((conv => whnf); first | (refine qX (fun h => ?_) fun h => ?_ <;> try exact absurd h (by omega)) | refine oN ?_ | refine oM ?_ ?_ | refine bM ?_ ?_ | refine dR ?_))
        (conv => whnf)
        exact ⟨[], [(1, gloO g)], 2, .tup [.c (.v (.slice none 0 0)), .c (.b false)], ⟨by rfl, trivial, by simp [gloO]⟩, by simp, .inr ⟨.inl (bad hnone), rfl, rfl⟩⟩
    · have e : k = len := by omega
      subst e
      repeat' (first | exact rfl | ((conv => whnf); first | (refine qX (fun h => ?_) fun h => ?_ <;> try exact absurd h (by omega)) | refine oN ?_ | refine oM ?_ ?_ | refine bM ?_ ?_ | refine dR ?_))
      (conv => whnf)
      exact ⟨[], [(1, gloO g), (2, .arr true 3 .int ns sp)], 3, .tup [.c (.sl 2 1 0 ns.length (ns.length + sp)), .c (.b true)], ⟨by rfl, trivial, by simp [gloO]⟩, by simp, .inl ⟨ns, sp, hns, by rw [hll]; exact h, rfl, rfl⟩⟩
end Go.Fw

/-
  The reader's three: arc, head, final.
-/
namespace Go.Fw
open Go Go.Proofs

structure RV where
  st : Int
  sa : Int
  fin : List Int
  arcs : List Arc
  last : Int

def rdC (R : RV) (i j sp sq : Nat) : List SC := [.i R.st, .i R.sa, .sl i 1 0 R.fin.length (R.fin.length + sp), .sl j 5 0 R.arcs.length (R.arcs.length + sq), .i R.last, .b (!R.arcs.isEmpty)]
abbrev rdH (R : RV) (i j sp sq : Nat) : List (Nat × SO) := [(0, .box 83 (rdC R i j sp sq)), (i, .arr true 3 .int R.fin sp), (j, .arr true 35 .arc R.arcs sq)]

/-- What one of the three answers. -/
def TakePost (g : Glo) (o : Option RV) (v : SV) (s : S) : Prop := ∃ R sp sq, s = ⟨[], rdH R 5 6 sp sq ++ [(4, gloO g)], 7⟩ ∧ ((o = some R ∧ v = .b true) ∨ (o = none ∧ v = .b false))

def nth (ns : List Int) (i : Nat) : Int := ns.getD i 0
def arcF (R : RV) (l : List (List UInt8)) : Option RV := if l.length = 5 then (numsO l).map fun ns => { R with arcs := R.arcs ++ [⟨nth ns 0, nth ns 1, nth ns 2, nth ns 3, nth ns 4⟩] } else none
def finF (R : RV) (l : List (List UInt8)) : Option RV := if (l.drop 1).length = 2 then (numsO (l.drop 1)).bind fun ns => if R.arcs = [] ∧ R.last < nth ns 0 ∧ nth ns 0 < R.st then some { R with fin := R.fin.set (nth ns 0).toNat (nth ns 1), last := nth ns 0 } else none else none
def wStates : List UInt8 := [115, 116, 97, 116, 101, 115]
def wStart : List UInt8 := [115, 116, 97, 114, 116]
def headF (l : List (List UInt8)) : Option RV := if l.length = 4 ∧ l.getD 0 [] = wStates ∧ l.getD 2 [] = wStart then (numsO [l.getD 1 [], l.getD 3 []]).bind fun ns => if 1 ≤ nth ns 0 ∧ nth ns 0 ≤ 200 then some ⟨nth ns 0, nth ns 1, List.replicate (nth ns 0).toNat (-1), [], -1⟩ else none else none

set_option maxHeartbeats 16000000 in
set_option maxRecDepth 20000 in
theorem arc_c (g : Glo) (hg : GloX g) (R : RV) (sp sq : Nat) (LL : List (List UInt8)) (cap : Nat) (hsz : ∀ x ∈ LL, x.length ≤ 1000000) (hL : LL.length ≤ 1000000) (ha : R.arcs.length ≤ 1000000) :
    Ct Tryd.prog 40 [.c (.ptr 0 0), .c (.sl 3 1 0 LL.length cap)] [] (rdH R 1 2 sp sq ++ [(3, .arr false 9 .str (LL.map bs) 0), (4, gloO g)]) 5 (TakePost g (arcF R LL)) := by
  have hnum := numbers_c g hg LL 0 LL.length cap 5 (by omega) (by omega) hsz hL
  rw [List.drop_zero, List.take_length] at hnum
  refine ctW Tryd.tyOk 8 [] Tryd.func40 rfl (by simp) (by simp) (fr := [(0, .c (.ptr 0 0)), (1, .c (.sl 3 1 0 LL.length cap))]) rfl ?_
  repeat' (first | exact rfl | ((conv => whnf); first | (refine qX (fun h => ?_) fun h => ?_ <;> try exact absurd h (by omega)) | refine oN ?_ | refine oM ?_ ?_ | refine bM ?_ ?_ | refine dR ?_))
  (conv => whnf)
  refine cF (hnum) [3, 4] Tryd.call59 ?_
  rintro v s (⟨ns, sp3, hns, hl5, rfl, rfl⟩ | ⟨hbad, rfl, rfl⟩)
  · have hnl := numsO_len hns
    repeat' (first | exact rfl | ((conv => whnf); first | (refine qX (fun h => ?_) fun h => ?_ <;> try exact absurd h (by omega)) | refine oN ?_ | refine oM ?_ ?_ | refine bM ?_ ?_ | refine dR ?_))
    intro sq2
    repeat' (first | exact rfl | ((conv => whnf); first | (refine qX (fun h => ?_) fun h => ?_ <;> try exact absurd h (by omega)) | refine oN ?_ | refine oM ?_ ?_ | refine bM ?_ ?_ | refine dR ?_))
    (conv => whnf)
    simp only [Nat.reduceAdd, Nat.reduceSub]
    refine ⟨[(5, some 1), (6, some 7)], rdH { R with arcs := R.arcs ++ [⟨nth ns 0, nth ns 1, nth ns 2, nth ns 3, nth ns 4⟩] } 5 6 sp sq2 ++ [(4, gloO g)], 7, .b true, ⟨by rfl, trivial, ?_⟩, by simp, { R with arcs := R.arcs ++ [⟨nth ns 0, nth ns 1, nth ns 2, nth ns 3, nth ns 4⟩] }, sp, sq2, rfl, .inl ⟨?_, rfl⟩⟩
    · simp [rdC, lOp.appL, sub, nth, EK.dflt]
    · unfold arcF
      rw [if_pos (by omega), hns]
      rfl
  · repeat' (first | exact rfl | ((conv => whnf); first | (refine qX (fun h => ?_) fun h => ?_ <;> try exact absurd h (by omega)) | refine oN ?_ | refine oM ?_ ?_ | refine bM ?_ ?_ | refine dR ?_))
    (conv => whnf)
    refine ⟨[(5, some 1), (6, some 2)], rdH R 5 6 sp sq ++ [(4, gloO g)], 7, .b false, ⟨by rfl, trivial, by simp [gloO, rdC]⟩, by simp, R, sp, sq, rfl, .inr ⟨?_, rfl⟩⟩
    unfold arcF
    split
    · rcases hbad with h | h
      · rw [h]; rfl
      · omega
    · rfl
end Go.Fw

/-
  The reader's final.
-/
namespace Go.Fw
open Go Go.Proofs

set_option maxHeartbeats 16000000 in
set_option maxRecDepth 20000 in
theorem final_c (g : Glo) (hg : GloX g) (R : RV) (sp sq : Nat) (LL : List (List UInt8)) (hsz : ∀ x ∈ LL, x.length ≤ 1000000) (hL : LL.length ≤ 1000000) (h1 : 1 ≤ LL.length) (hfl : (R.fin.length : Int) = R.st) :
    Ct Tryd.prog 42 [.c (.ptr 0 0), .c (.sl 3 1 0 LL.length LL.length)] [] (rdH R 1 2 sp sq ++ [(3, .arr false 9 .str (LL.map bs) 0), (4, gloO g)]) 5 (TakePost g (finF R LL)) := by
  have hdl : (LL.drop 1).length = LL.length - 1 := by simp
  have hnum : ∀ lo len cap : Nat, lo + len ≤ LL.length → (LL.drop lo).take len = LL.drop 1 → Ct Tryd.prog 59 [SV.c (SC.sl 0 1 lo len cap), SV.i 2] [] [(0, SO.arr false 9 EK.str (List.map bs LL) 0), (1, gloO g)] 2 (NumPost g (LL.drop 1) 2) := fun lo len cap h e => by
    have := numbers_c g hg LL lo len cap 2 h (by omega) hsz hL
    rwa [e] at this
  refine ctW Tryd.tyOk 8 [] Tryd.func42 rfl (by simp) (by simp) (fr := [(0, .c (.ptr 0 0)), (1, .c (.sl 3 1 0 LL.length LL.length))]) rfl ?_
  repeat' (first | exact rfl | ((conv => whnf); first | (refine qX (fun h => ?_) fun h => ?_ <;> try exact absurd h (by omega)) | refine oN ?_ | refine oM ?_ ?_ | refine bM ?_ ?_ | refine dR ?_))
  · (conv => whnf)
    refine cF (hnum (0 + Int.toNat 1) ((LL.length : Int) - 1).toNat (LL.length - Int.toNat 1) (by omega) (by rw [show 0 + Int.toNat 1 = 1 from rfl, List.take_of_length_le (by omega)])) [3, 4] Tryd.call59 ?_
    rintro v s (⟨ns, sp3, hns, hl5, rfl, rfl⟩ | ⟨hbad, rfl, rfl⟩)
    · have hnl := numsO_len hns
      have hn0 := numsO_rng hns _ (getD_mem ns 0 0 (by omega))
      have hff : finF R LL = if R.arcs = [] ∧ R.last < nth ns 0 ∧ nth ns 0 < R.st then some { R with fin := R.fin.set (nth ns 0).toNat (nth ns 1), last := nth ns 0 } else none := by
        unfold finF
        rw [if_pos (by omega), hns]
        rfl
      have hn0' : 0 ≤ nth ns 0 := hn0.1
      have ret : ∀ k, finF R LL = none → k = SV.b false → TakePost g (finF R LL) k ⟨[], rdH R 5 6 sp sq ++ [(4, gloO g)], 7⟩ := fun k e1 e2 => ⟨R, sp, sq, rfl, .inr ⟨e1, e2⟩⟩
      repeat' (first | exact rfl | ((conv => whnf); first | (refine qX (fun h => ?_) fun h => ?_ <;> try exact absurd h (by omega)) | refine oN ?_ | refine oM ?_ ?_ | refine bM ?_ ?_ | refine dR ?_))
      · (conv => whnf)
        have hne : ¬ R.arcs = [] := fun c => by rw [c] at h; cases h
        exact ⟨[(5, some 1), (6, some 2)], rdH R 5 6 sp sq ++ [(4, gloO g)], 7, .b false, ⟨by rfl, trivial, by simp [gloO, rdC]⟩, by simp, ret _ (by rw [hff, if_neg (fun c => hne c.1)]) rfl⟩
      · have h2 : nth ns 0 ≤ R.last := h
        (conv => whnf)
        exact ⟨[(5, some 1), (6, some 2)], rdH R 5 6 sp sq ++ [(4, gloO g)], 7, .b false, ⟨by rfl, trivial, by simp [gloO, rdC]⟩, by simp, ret _ (by rw [hff, if_neg (fun c => by omega)]) rfl⟩
      · have h2 : nth ns 0 ≥ R.st := h
        (conv => whnf)
        exact ⟨[(5, some 1), (6, some 2)], rdH R 5 6 sp sq ++ [(4, gloO g)], 7, .b false, ⟨by rfl, trivial, by simp [gloO, rdC]⟩, by simp, ret _ (by rw [hff, if_neg (fun c => by omega)]) rfl⟩
      · have h2 : ¬ nth ns 0 ≥ R.st := h
        show 0 ≤ nth ns 0 ∧ nth ns 0 < R.fin.length ∧ 0 + R.fin.length ≤ R.fin.length
        omega
      · have h2 : ¬ nth ns 0 ≥ R.st := h
        show 0 + (nth ns 0).toNat < R.fin.length
        omega
      · rename_i he h2
        have h3' : ¬ nth ns 0 ≥ R.st := h
        have h2' : ¬ nth ns 0 ≤ R.last := h2
        have hem : R.arcs = [] := by simpa using he
        repeat' (first | exact rfl | ((conv => whnf); first | (refine qX (fun h => ?_) fun h => ?_ <;> try exact absurd h (by omega)) | refine oN ?_ | refine oM ?_ ?_ | refine bM ?_ ?_ | refine dR ?_))
        (conv => whnf)
        simp only [Nat.reduceAdd, Nat.reduceSub]
        refine ⟨[(5, some 1), (6, some 2)], rdH { R with fin := R.fin.set (nth ns 0).toNat (nth ns 1), last := nth ns 0 } 5 6 sp sq ++ [(4, gloO g)], 7, .b true, ⟨by rfl, trivial, ?_⟩, by simp, { R with fin := R.fin.set (nth ns 0).toNat (nth ns 1), last := nth ns 0 }, sp, sq, rfl, .inl ⟨by rw [hff, if_pos ⟨hem, by omega, by omega⟩], rfl⟩⟩
        simp [rdC, nth, EK.dflt]
    · repeat' (first | exact rfl | ((conv => whnf); first | (refine qX (fun h => ?_) fun h => ?_ <;> try exact absurd h (by omega)) | refine oN ?_ | refine oM ?_ ?_ | refine bM ?_ ?_ | refine dR ?_))
      (conv => whnf)
      refine ⟨[(5, some 1), (6, some 2)], rdH R 5 6 sp sq ++ [(4, gloO g)], 7, .b false, ⟨by rfl, trivial, by simp [gloO, rdC]⟩, by simp, R, sp, sq, rfl, .inr ⟨?_, rfl⟩⟩
      unfold finF
      split
      · rcases hbad with h | h
        · rw [h]; rfl
        · omega
      · rfl
  · (conv => whnf)
    refine cF (hnum 0 ((LL.length : Int) - 1).toNat (LL.length - Int.toNat 1) (by omega) (by rw [List.drop_zero, List.take_eq_nil_iff.2 (.inl (by omega)), List.drop_eq_nil_of_le (by omega)])) [3, 4] Tryd.call59 ?_
    rintro v s (⟨ns, sp3, hns, hl5, rfl, rfl⟩ | ⟨hbad, rfl, rfl⟩)
    · omega
    · repeat' (first | exact rfl | ((conv => whnf); first | (refine qX (fun h => ?_) fun h => ?_ <;> try exact absurd h (by omega)) | refine oN ?_ | refine oM ?_ ?_ | refine bM ?_ ?_ | refine dR ?_))
      (conv => whnf)
      refine ⟨[(5, some 1), (6, some 2)], rdH R 5 6 sp sq ++ [(4, gloO g)], 7, .b false, ⟨by rfl, trivial, by simp [gloO, rdC]⟩, by simp, R, sp, sq, rfl, .inr ⟨?_, rfl⟩⟩
      unfold finF
      rw [if_neg (by omega)]
end Go.Fw

/-
  The reader's head.
-/
namespace Go.Fw
open Go Go.Proofs

set_option maxHeartbeats 16000000 in
set_option maxRecDepth 20000 in
theorem head_c (g : Glo) (hg : GloX g) (R : RV) (sp sq : Nat) (LL : List (List UInt8)) (cap : Nat) (hsz : ∀ x ∈ LL, x.length ≤ 1000000) (hra : R.arcs = []) :
    Ct Tryd.prog 41 [.c (.ptr 0 0), .c (.sl 3 1 0 LL.length cap)] [] (rdH R 1 2 sp sq ++ [(3, .arr false 9 .str (LL.map bs) 0), (4, gloO g)]) 5 (TakePost g (headF LL)) := by
  have hv : ∀ i : Nat, (LL.map bs).getD i EK.str.dflt = bs (LL.getD i []) := fun i => mapbs_getD LL i
  refine ctW Tryd.tyOk 7 [] Tryd.func41 rfl (by simp) (by simp) (fr := [(0, .c (.ptr 0 0)), (1, .c (.sl 3 1 0 LL.length cap))]) rfl ?_
  have v0 : (LL.map bs).getD (0 + Int.toNat 0) EK.str.dflt = bs (LL.getD 0 []) := hv 0
  have v1 : (LL.map bs).getD (0 + Int.toNat 1) EK.str.dflt = bs (LL.getD 1 []) := hv 1
  have v2 : (LL.map bs).getD (0 + Int.toNat 2) EK.str.dflt = bs (LL.getD 2 []) := hv 2
  have v3 : (LL.map bs).getD (0 + Int.toNat 3) EK.str.dflt = bs (LL.getD 3 []) := hv 3
  have ret : ∀ k, headF LL = none → k = SV.b false → TakePost g (headF LL) k ⟨[], rdH R 5 6 sp sq ++ [(4, gloO g)], 7⟩ := fun k e1 e2 => ⟨R, sp, sq, rfl, .inr ⟨e1, e2⟩⟩
  repeat' (first | exact rfl | ((conv => whnf); first | (refine qX (fun h => ?_) fun h => ?_ <;> try exact absurd h (by omega)) | refine oN ?_ | refine oM ?_ ?_ | refine bM ?_ ?_ | refine dR ?_))
  · (conv => whnf)
    exact ⟨[(5, some 1), (6, some 2)], rdH R 5 6 sp sq ++ [(4, gloO g)], 7, .b false, ⟨by rfl, trivial, by simp [gloO, rdC]⟩, by simp, ret _ (by unfold headF; rw [if_neg (fun c => h (by omega))]) rfl⟩
  · rw [v0, bs_data] at h
    (conv => whnf)
    exact ⟨[(5, some 1), (6, some 2)], rdH R 5 6 sp sq ++ [(4, gloO g)], 7, .b false, ⟨by rfl, trivial, by simp [gloO, rdC]⟩, by simp, ret _ (by unfold headF; rw [if_neg (fun c => h c.2.1)]) rfl⟩
  · rw [v2, bs_data] at h
    (conv => whnf)
    exact ⟨[(5, some 1), (6, some 2)], rdH R 5 6 sp sq ++ [(4, gloO g)], 7, .b false, ⟨by rfl, trivial, by simp [gloO, rdC]⟩, by simp, ret _ (by unfold headF; rw [if_neg (fun c => h c.2.2)]) rfl⟩
  rename_i h4 h0
  rw [v0, bs_data] at h0
  rw [v2, bs_data] at h
  have hhd : headF LL = (numsO [LL.getD 1 [], LL.getD 3 []]).bind fun ns => if 1 ≤ nth ns 0 ∧ nth ns 0 ≤ 200 then some ⟨nth ns 0, nth ns 1, List.replicate (nth ns 0).toNat (-1), [], -1⟩ else none := by
    unfold headF
    rw [if_pos ⟨by omega, h0, h⟩]
  have z1 := hsz _ (getD_mem LL 1 [] (by omega))
  have z3 := hsz _ (getD_mem LL 3 [] (by omega))
  generalize hA : LL.getD 1 [] = A at *
  generalize hB : LL.getD 3 [] = B at *
  repeat' (first | exact rfl | ((conv => whnf); first | (refine qX (fun h => ?_) fun h => ?_ <;> try exact absurd h (by omega)) | refine oN ?_ | refine oM ?_ ?_ | refine bM ?_ ?_ | refine dR ?_))
  (conv => whnf)
  rw [v1, v3]
  have hnum := numbers_c g hg [A, B] 0 2 2 2 (by simp) (by omega) (by simp; exact ⟨z1, z3⟩) (by simp)
  rw [List.drop_zero, List.take_of_length_le (by simp)] at hnum
  refine cF (hnum) [5, 4] Tryd.call59 ?_
  rintro v s (⟨ns, sp3, hns, hl5, rfl, rfl⟩ | ⟨hbad, rfl, rfl⟩)
  · have hnl := numsO_len hns
    simp only [List.length_cons, List.length_nil] at hnl
    rw [hns] at hhd
    have hn0 := numsO_rng hns _ (getD_mem ns 0 0 (by omega))
    have q0 : ns.getD (0 + Int.toNat 0) EK.int.dflt = nth ns 0 := rfl
    have q1 : ns.getD (0 + Int.toNat 1) EK.int.dflt = nth ns 1 := rfl
    repeat' (first | exact rfl | ((conv => whnf); first | (refine qX (fun h => ?_) fun h => ?_ <;> try exact absurd h (by omega)) | refine oN ?_ | refine oM ?_ ?_ | refine bM ?_ ?_ | refine dR ?_))
    (conv => whnf)
    refine cI (within_c (ns.getD (0 + Int.toNat 0) EK.int.dflt) 1 200) [] Tryd.call34 ?_
    repeat' (first | exact rfl | ((conv => whnf); first | (refine qX (fun h => ?_) fun h => ?_ <;> try exact absurd h (by omega)) | refine oN ?_ | refine oM ?_ ?_ | refine bM ?_ ?_ | refine dR ?_))
    · rw [q0] at h
      (conv => whnf)
      exact ⟨[(5, some 1), (6, some 2)], rdH R 5 6 sp sq ++ [(4, gloO g)], 7, .b false, ⟨by rfl, trivial, by simp [gloO, rdC]⟩, by simp, ret _ (by rw [hhd]; exact if_neg (fun c => by omega)) rfl⟩
    rw [q0] at h
    repeat' (first | exact rfl | ((conv => whnf); first | (refine qX (fun h => ?_) fun h => ?_ <;> try exact absurd h (by omega)) | refine oN ?_ | refine oM ?_ ?_ | refine bM ?_ ?_ | refine dR ?_))
    (conv => whnf)
    simp only [Nat.reduceAdd, Nat.reduceSub]
    refine cF (repeat_c (-1) (ns.getD (0 + Int.toNat 0) EK.int.dflt) 1 hn0.1 (by omega)) [7] Tryd.call60 ?_
    rintro _ _ ⟨rfl, rfl⟩
    repeat' (first | exact rfl | ((conv => whnf); first | (refine qX (fun h => ?_) fun h => ?_ <;> try exact absurd h (by omega)) | refine oN ?_ | refine oM ?_ ?_ | refine bM ?_ ?_ | refine dR ?_))
    (conv => whnf)
    simp only [Nat.reduceAdd, Nat.reduceSub]
    refine ⟨[(5, some 8), (6, none)], rdH ⟨nth ns 0, nth ns 1, List.replicate (nth ns 0).toNat (-1), [], -1⟩ 5 6 0 0 ++ [(4, gloO g)], 7, .b true, ⟨by rfl, trivial, ?_⟩, by simp, ⟨nth ns 0, nth ns 1, List.replicate (nth ns 0).toNat (-1), [], -1⟩, 0, 0, rfl, .inl ⟨by rw [hhd]; exact if_pos h, rfl⟩⟩
    simp [rdC, hra, nilO, nth, EK.dflt]
  · repeat' (first | exact rfl | ((conv => whnf); first | (refine qX (fun h => ?_) fun h => ?_ <;> try exact absurd h (by omega)) | refine oN ?_ | refine oM ?_ ?_ | refine bM ?_ ?_ | refine dR ?_))
    (conv => whnf)
    refine ⟨[(5, some 1), (6, some 2)], rdH R 5 6 sp sq ++ [(4, gloO g)], 7, .b false, ⟨by rfl, trivial, by simp [gloO, rdC]⟩, by simp, ret _ ?_ rfl⟩
    rcases hbad with c | c
    · rw [hhd, c]; rfl
    · simp at c
end Go.Fw
