/-
  The soundness of the quiet operations.
-/
import Derived.Test.YtdijmfdanbnppaaDoorS00
import Derived.Laws.StructEq
import Derived.Maps.RangeRun

set_option linter.unusedSimpArgs false
set_option linter.unusedVariables false

namespace Go.Fw
open Go

section
variable {P : Program} {ty : List (Nat × STy)} {β : Env} {Z : Nat → Prop} {fp : Nat → Nat → Prop} {s : S} {w : World} {N : NT} {a : Act}

/-- What is asked of a quiet operation. -/
def QOkW (P : Program) (β : Env) (s : S) (w : World) (a : Act) (o : Oper) (k : SV → Prop) : Prop :=
  ∃ v, (execOp a.eval o).run P w = .ok (.value (v.den β)) w ∧ v.lt s.nx ∧ k v

theorem QOkW.mk {o : Oper} {k : SV → Prop} (v : SV) (he : (execOp a.eval o).run P w = .ok (.value (v.den β)) w) (hl : v.lt s.nx) (hk : k v) : QOkW P β s w a o k := ⟨v, he, hl, hk⟩

/-- The same, whatever the world. -/
def QOk (P : Program) (β : Env) (s : S) (a : Act) (o : Oper) (k : SV → Prop) : Prop :=
  ∃ v, (∀ w, (execOp a.eval o).run P w = .ok (.value (v.den β)) w) ∧ v.lt s.nx ∧ k v

theorem QOk.mk {o : Oper} {k : SV → Prop} (v : SV) (he : ∀ w, (execOp a.eval o).run P w = .ok (.value (v.den β)) w) (hl : v.lt s.nx) (hk : k v) : QOk P β s a o k := ⟨v, he, hl, hk⟩

theorem q_fieldAddr (hty : TyOk P ty) (hs : BSat β s) (hf : FSat β s N a) {k : SV → Prop} {dst : Option Nat} {T : TypeId} {x : Operand} {f : Nat} {type : TypeId} {pos : String}
    {after : Array Edge} {guard : Option (Nat × Bool)} (h : qOp ty (.fieldAddr T x f) s k) : QOk P β s a ⟨dst, .fieldAddr T x f, type, pos, after, guard⟩ k := by
  simp only [qOp] at h
  split at h <;> try exact h.elim
  · rename_i d id off hd hx
    split at h <;> try exact h.elim
    rename_i o sz T' cs hagg ho hl
    obtain ⟨he, hlt⟩ := ev_den hf hx
    obtain ⟨b, hb⟩ := hs.box _ _ _ hl
    obtain ⟨fields, hu, hfs⟩ := (hty T d hd).str hagg
    rw [nthN_eq] at ho
    obtain ⟨fd, hf1, hf2, hf3, hf4⟩ := hfs _ _ ho
    refine QOk.mk (.c (.ptr id (off + o))) ?_ hlt h
    simp only at hf2 hf4
    simp [execOp, Instr.fieldAt, run_underlying hu, hf1, he, SV.den, SA.den, SC.den, hb, Instr.sureAddr, fieldPlace, hf3, hf4, hf2, Addr.add_lit]
  · rename_i d id sz i off hd hx
    split at h <;> try exact h.elim
    rename_i o sz' own E ek xs sp hagg ho hl
    obtain ⟨hi, h⟩ := h
    obtain ⟨he, hlt⟩ := ev_den hf hx
    obtain ⟨x', hb, hsp⟩ := hs.arr _ _ _ _ _ _ _ hl hi
    obtain ⟨fields, hu, hfs⟩ := (hty T d hd).str hagg
    rw [nthN_eq] at ho
    obtain ⟨fd, hf1, hf2, hf3, hf4⟩ := hfs _ _ ho
    refine QOk.mk (.c (.elt id sz i (off + o))) ?_ hlt h
    simp only at hf2 hf4
    simp [execOp, Instr.fieldAt, run_underlying hu, hf1, he, SV.den, SA.den, SC.den, hb, Instr.sureAddr, fieldPlace, hf3, hf4, hf2, add_eq hsp, Addr.add_lit, Nat.add_assoc]
  · rename_i d q hd hx
    split at h <;> try exact h.elim
    rename_i o sz id hagg ho hp
    split at h <;> try exact h.elim
    rename_i E ek m hl
    obtain ⟨hi, h⟩ := h
    obtain ⟨he, hlt⟩ := ev_den hf hx
    obtain ⟨x', y, rfl, hla, _⟩ := rowA_lt hi
    have hsp := hs.pool _ _ _ _ _ _ hl hla
    obtain ⟨fields, hu, hfs⟩ := (hty T d hd).str hagg
    rw [nthN_eq] at ho
    obtain ⟨fd, hf1, hf2, hf3, hf4⟩ := hfs _ _ ho
    refine QOk.mk (.c (.pe id ek.sz (some x') 0 o)) ?_ (hs.plt _ _ _ _ hl) h
    simp only at hf2 hf4
    simp [execOp, Instr.fieldAt, run_underlying hu, hf1, he, SV.den, SA.den, SC.den, Instr.sureAddr, fieldPlace, hf3, hf4, hf2]
  · rename_i d id sz q i off hd hx
    split at h <;> try exact h.elim
    rename_i o sz' E ek m hagg ho hl
    obtain ⟨hi, h⟩ := h
    obtain ⟨he, hlt⟩ := ev_den hf hx
    obtain ⟨x', y, rfl, hla, _⟩ := rowA_lt hi
    have hsp := hs.pool _ _ _ _ _ _ hl hla
    obtain ⟨fields, hu, hfs⟩ := (hty T d hd).str hagg
    rw [nthN_eq] at ho
    obtain ⟨fd, hf1, hf2, hf3, hf4⟩ := hfs _ _ ho
    refine QOk.mk (.c (.pe id sz (some x') i (off + o))) ?_ hlt h
    simp only at hf2 hf4
    simp [execOp, Instr.fieldAt, run_underlying hu, hf1, he, SV.den, SA.den, SC.den, Instr.sureAddr, fieldPlace, hf3, hf4, hf2, add_eq hsp, Addr.add_lit, Nat.add_assoc]

theorem q_load (hty : TyOk P ty) (hs : HSat β Z fp s w) (hf : FSat β s N a) {k : SV → Prop} {dst : Option Nat} {T : TypeId} {x : Operand} {type : TypeId} {pos : String}
    {after : Array Edge} {guard : Option (Nat × Bool)} (h : qOp ty (.load T x) s k) : QOkW P β s w a ⟨dst, .load T x, type, pos, after, guard⟩ k := by
  simp only [qOp] at h
  split at h <;> try exact h.elim
  · rename_i d id off hd hx
    split at h <;> try exact h.elim
    rename_i T' cs hl
    obtain ⟨he, hlt⟩ := ev_den hf hx
    obtain ⟨b, hb, _, _⟩ := box_at hs hl
    have hcl : ∀ c ∈ cs, SC.lt s.nx c := (hs.lto id _ hl).2
    have hrun : (execOp a.eval ⟨dst, .load T x, type, pos, after, guard⟩).run P w = ((Instr.loadAt T (.pointer (some ⟨b, off, none⟩))).run P w).andThen fun v w => .ok (.value v) w := by
      simp [execOp, he, SV.den, SA.den, SC.den, hb, Addr.add_lit]
    rw [run_isAgg_load (hty T d hd)] at hrun
    split at h
    · rename_i hagg
      split at h <;> try exact h.elim
      rename_i hlen
      rw [nble, lenN_eq, lenN_eq, decide_eq_true_eq] at hlen
      rw [forceC_iff, takeN_eq, dropN_eq, lenN_eq] at h
      refine QOkW.mk _ ?_ ?_ h
      · rw [hrun, hagg]
        simp only
        have := run_loadCells_list (P := P) w ⟨b, off, none⟩ (((cs.drop off).take d.zero.length).map (SC.den β)) (fun j v hj => by
          rw [List.getElem?_map] at hj
          obtain ⟨c, hc, rfl⟩ := Option.map_eq_some_iff.1 hj
          rw [Addr.add_lit]
          refine box_cell hs hl hb _ _ ?_
          rw [List.getElem?_take] at hc
          split at hc
          · rwa [List.getElem?_drop] at hc
          · cases hc)
        rw [List.length_map, List.length_take, List.length_drop, Nat.min_eq_left (by omega)] at this
        rw [this]
        simp [SV.den, SA.den]
      · exact fun c hc => hcl c (List.mem_of_mem_drop (List.mem_of_mem_take hc))
    · rename_i hagg
      split at h <;> try exact h.elim
      rename_i c hc
      rw [nthN_eq] at hc
      refine QOkW.mk (.a (.c c)) ?_ (hcl c (List.mem_of_getElem? hc)) h
      rw [hrun, hagg]
      simp [run_load, box_cell hs hl hb _ _ hc, SV.den, SA.den]
  · rename_i d id sz i off hd hx
    split at h <;> try exact h.elim
    rename_i own E ek xs sp hl
    split at h <;> try exact h.elim
    rename_i hsz
    rw [nbeq, decide_eq_true_eq] at hsz
    subst hsz
    obtain ⟨hi, h⟩ := h
    obtain ⟨he, hlt⟩ := ev_den hf hx
    obtain ⟨x', hb, hsp, hcell⟩ := arr_some hs hl hi
    have hrun : (execOp a.eval ⟨dst, .load T x, type, pos, after, guard⟩).run P w = ((Instr.loadAt T (.pointer (some ⟨x'.block, x'.off + (i * ek.sz + off), none⟩))).run P w).andThen fun v w => .ok (.value v) w := by
      simp [execOp, he, SV.den, SA.den, SC.den, hb, add_eq hsp]
    rw [run_isAgg_load (hty T d hd)] at hrun
    split at h
    · rename_i hagg
      split at h <;> try exact h.elim
      rename_i h0 hlen
      rw [nbeq, decide_eq_true_eq] at h0
      rw [nbeq, lenN_eq, decide_eq_true_eq] at hlen
      subst h0
      rw [forceC_iff] at h
      refine QOkW.mk (.a (.agg (ek.sym (xs.getD i ek.dflt)))) ?_ (EK.sym_lt ek _ _) h
      rw [hrun, hagg, hlen]
      simp only
      have := run_loadCells_list (P := P) w ⟨x'.block, x'.off + (i * ek.sz + 0), none⟩ ((ek.sym (xs.getD i ek.dflt)).map (SC.den β)) (fun j v hj => by
        rw [List.getElem?_map] at hj
        obtain ⟨c, hc, rfl⟩ := Option.map_eq_some_iff.1 hj
        rw [Addr.add_lit]
        have hj' : j < ek.sz := by
          have := (List.getElem?_eq_some_iff.1 hc).1
          rwa [EK.sym_length] at this
        have := hcell j hj'
        rw [hc] at this
        simpa [Nat.add_assoc] using this)
      rw [List.length_map, EK.sym_length] at this
      rw [this]
      simp [SV.den, SA.den]
    · rename_i hagg
      split at h <;> try exact h.elim
      rename_i c hc
      rw [nthN_eq] at hc
      have hoff : off < ek.sz := by
        have := (List.getElem?_eq_some_iff.1 hc).1
        rwa [EK.sym_length] at this
      refine QOkW.mk (.a (.c c)) ?_ (EK.sym_lt ek _ _ c (List.mem_of_getElem? hc)) h
      have := hcell off hoff
      rw [hc] at this
      rw [hrun, hagg]
      simp [run_load, this, SV.den, SA.den]
  · rename_i d id sz q i off hd hx
    split at h <;> try exact h.elim
    rename_i E ek m hl
    split at h <;> try exact h.elim
    rename_i hsz
    rw [nbeq, decide_eq_true_eq] at hsz
    subst hsz
    obtain ⟨hi, h⟩ := h
    obtain ⟨he, hlt⟩ := ev_den hf hx
    obtain ⟨x', rfl, hsp, hcell⟩ := pool_cell hs hl hi
    generalize (rowA m (some x')).getD i ek.dflt = e at *
    have hrun : (execOp a.eval ⟨dst, .load T x, type, pos, after, guard⟩).run P w = ((Instr.loadAt T (.pointer (some ⟨x'.block, x'.off + (i * ek.sz + off), none⟩))).run P w).andThen fun v w => .ok (.value v) w := by
      simp [execOp, he, SV.den, SA.den, SC.den, add_eq hsp]
    rw [run_isAgg_load (hty T d hd)] at hrun
    split at h
    · rename_i hagg
      split at h <;> try exact h.elim
      rename_i hlen
      rw [nble, lenN_eq, decide_eq_true_eq] at hlen
      rw [forceC_iff, takeN_eq, dropN_eq, lenN_eq] at h
      refine QOkW.mk _ ?_ ?_ h
      · rw [hrun, hagg]
        simp only
        have := run_loadCells_list (P := P) w ⟨x'.block, x'.off + (i * ek.sz + off), none⟩ ((((ek.sym e).drop off).take d.zero.length).map (SC.den β)) (fun j v hj => by
          rw [List.getElem?_map] at hj
          obtain ⟨c, hc, rfl⟩ := Option.map_eq_some_iff.1 hj
          rw [Addr.add_lit]
          rw [List.getElem?_take] at hc
          split at hc
          · rename_i hjl
            rw [List.getElem?_drop] at hc
            have := hcell (off + j) (by omega)
            rw [hc] at this
            simpa [Nat.add_assoc] using this
          · cases hc)
        rw [List.length_map, List.length_take, List.length_drop, EK.sym_length, Nat.min_eq_left (by omega)] at this
        rw [this]
        simp [SV.den, SA.den]
      · exact fun c hc => EK.sym_lt ek _ _ c (List.mem_of_mem_drop (List.mem_of_mem_take hc))
    · rename_i hagg
      split at h <;> try exact h.elim
      rename_i c hc
      rw [nthN_eq] at hc
      have hoff : off < ek.sz := by
        have := (List.getElem?_eq_some_iff.1 hc).1
        rwa [EK.sym_length] at this
      refine QOkW.mk (.a (.c c)) ?_ (EK.sym_lt ek _ _ c (List.mem_of_getElem? hc)) h
      have := hcell off hoff
      rw [hc] at this
      rw [hrun, hagg]
      simp [run_load, this, SV.den, SA.den]
  · rename_i d q hd hx
    split at h <;> try exact h.elim
    rename_i id hp
    split at h <;> try exact h.elim
    rename_i E ek m hl
    split at h <;> try exact h.elim
    rename_i hagg hlen
    rw [nbeq, lenN_eq, decide_eq_true_eq] at hlen
    obtain ⟨hi, h⟩ := h
    rw [forceC_iff] at h
    obtain ⟨he, hlt⟩ := ev_den hf hx
    obtain ⟨x', rfl, hsp, hcell⟩ := pool_cell hs hl hi
    generalize (rowA m (some x')).getD 0 ek.dflt = e at *
    have hrun : (execOp a.eval ⟨dst, .load T x, type, pos, after, guard⟩).run P w = ((Instr.loadAt T (.pointer (some ⟨x'.block, x'.off, none⟩))).run P w).andThen fun v w => .ok (.value v) w := by
      have e1 : (⟨x'.block, x'.off, none⟩ : Addr) = x' := by obtain ⟨b, o, sp⟩ := x'; cases hsp; rfl
      simp [execOp, he, SV.den, SA.den, SC.den, e1]
    rw [run_isAgg_load (hty T d hd)] at hrun
    refine QOkW.mk (.a (.agg (ek.sym e))) ?_ (EK.sym_lt ek _ _) h
    rw [hrun, hagg, hlen]
    simp only
    have := run_loadCells_list (P := P) w ⟨x'.block, x'.off, none⟩ ((ek.sym e).map (SC.den β)) (fun j v hj => by
      rw [List.getElem?_map] at hj
      obtain ⟨c, hc, rfl⟩ := Option.map_eq_some_iff.1 hj
      rw [Addr.add_lit]
      have hj' : j < ek.sz := by
        have := (List.getElem?_eq_some_iff.1 hc).1
        rwa [EK.sym_length] at this
      have := hcell j hj'
      rw [hc] at this
      simpa [Nat.add_assoc] using this)
    rw [List.length_map, EK.sym_length] at this
    rw [this]
    simp [SV.den, SA.den]

theorem q_index (hty : TyOk P ty) (hs : BSat β s) (hf : FSat β s N a) {k : SV → Prop} {dst : Option Nat} {T : TypeId} {x ix : Operand} {type : TypeId} {pos : String}
    {after : Array Edge} {guard : Option (Nat × Bool)} (h : qOp ty (.indexAddr T x ix) s k) : QOk P β s a ⟨dst, .indexAddr T x ix, type, pos, after, guard⟩ k := by
  simp only [qOp] at h
  split at h <;> try exact h.elim
  · rename_i d id sz lo len cap n hd hx hi
    split at h <;> try exact h.elim
    · rename_i E ek by_ own E' ek' xs sp hsl hl
      split at h <;> try exact h.elim
      rename_i hsz
      rw [nbeq, decide_eq_true_eq] at hsz
      obtain ⟨⟨h0, h1, h2⟩, h⟩ := h
      obtain ⟨he, hlt⟩ := ev_den hf hx
      obtain ⟨hei, _⟩ := ev_den hf hi
      obtain ⟨hu, hE, _⟩ := (hty T d hd).sl _ _ _ hsl
      obtain ⟨y, hb, hsp⟩ := hs.arr _ _ _ _ _ _ lo hl (by omega)
      refine QOk.mk (.c (.elt id sz (lo + n.toNat) 0)) (fun w => ?_) hlt h
      have hu' : P.underlying T = some (.slice (P.elem T)) := by simp [hu, Program.elem]
      have hE' : P.elem T = E := by simp [hu, Program.elem]
      simp only [execOp, he, hei, SV.den, SA.den, SC.den, hb, Option.map_some, Sem.run_bind, run_indexAt_slice (h := hu'), if_pos (And.intro h0 h1), hE', hE, Result.andThen_ok, Sem.run_pure]
      rw [add_eq hsp, add_eq hsp, Addr.add_lit, hsz, Nat.add_mul, Nat.add_assoc, Nat.add_zero]
    · rename_i E ek by_ T2 cs hsl hl
      split at h <;> try exact h.elim
      rename_i hsz
      rw [nbeq, decide_eq_true_eq] at hsz
      obtain ⟨⟨h0, h1⟩, h⟩ := h
      obtain ⟨he, hlt⟩ := ev_den hf hx
      obtain ⟨hei, _⟩ := ev_den hf hi
      obtain ⟨hu, hE, _⟩ := (hty T d hd).sl _ _ _ hsl
      obtain ⟨b, hb⟩ := hs.box _ _ _ hl
      refine QOk.mk (.c (.ptr id ((lo + n.toNat) * sz))) (fun w => ?_) hlt h
      have hu' : P.underlying T = some (.slice (P.elem T)) := by simp [hu, Program.elem]
      have hE' : P.elem T = E := by simp [hu, Program.elem]
      simp only [execOp, he, hei, SV.den, SA.den, SC.den, hb, Option.map_some, Sem.run_bind, run_indexAt_slice (h := hu'), if_pos (And.intro h0 h1), hE', hE, Result.andThen_ok, Sem.run_pure]
      rw [Addr.add_lit, Addr.add_lit, Addr.add_lit, hsz, Nat.add_mul, Nat.add_assoc]
  · rename_i d hdr n hd hx hi
    split at h <;> try exact h.elim
    rename_i E ek by_ hsl
    split at h <;> try exact h.elim
    rename_i id hp
    split at h <;> try exact h.elim
    rename_i E' k0 m hl
    split at h <;> try exact h.elim
    rename_i hsz
    rw [nbeq, decide_eq_true_eq] at hsz
    obtain ⟨⟨h0, h1, h2⟩, h⟩ := h
    obtain ⟨he, hlt⟩ := ev_den hf hx
    obtain ⟨hei, _⟩ := ev_den hf hi
    obtain ⟨hu, hE, _⟩ := (hty T d hd).sl _ _ _ hsl
    obtain ⟨y, q, hya, hla, _⟩ := rowA_lt h2
    have hsp := hs.pool _ _ _ _ _ _ hl hla
    refine QOk.mk (.c (.pe id ek.sz hdr.a n.toNat 0)) (fun w => ?_) (hs.plt _ _ _ _ hl) h
    have hu' : P.underlying T = some (.slice (P.elem T)) := by simp [hu, Program.elem]
    have hE' : P.elem T = E := by simp [hu, Program.elem]
    simp only [execOp, he, hei, SV.den, SA.den, SC.den, hya, Option.map_some, Sem.run_bind, run_indexAt_slice (h := hu'), if_pos (And.intro h0 h1), hE', hE, Result.andThen_ok, Sem.run_pure]
    rw [Nat.add_zero]

theorem binI_sound {op : BinOp} {x y : Int} {k : SV → Prop} (h : binI op x y k) (t : TypeId) (p q : Operand) (n : Nat) :
    ∃ v, (∀ w, ((do eqGuard op t p q (.int .i64 x) (.int .i64 y); binOp op t (.int .i64 x) (.int .i64 y) : Sem Value)).run P w = .ok (v.den β) w) ∧ v.lt n ∧ k v := by
  cases op <;> simp only [binI] at h <;> try exact h.elim
  case add => exact ⟨.i (x + y), fun w => by simp [go_sem, wrap_in h.ob, SV.den, SA.den, SC.den], trivial, h.go⟩
  case sub => exact ⟨.i (x - y), fun w => by simp [go_sem, wrap_in h.ob, SV.den, SA.den, SC.den], trivial, h.go⟩
  case mul => exact ⟨.i (x * y), fun w => by simp [go_sem, wrap_in h.ob, SV.den, SA.den, SC.den], trivial, h.go⟩
  case quo =>
    obtain ⟨⟨h0, h1, h2⟩, h⟩ := h
    refine ⟨.i (x / y), fun w => ?_, trivial, h⟩
    have hy : ¬ y = 0 := by omega
    have e : x.tdiv y = x / y := Int.tdiv_eq_ediv_of_nonneg h0
    have hb : InI (x / y) := by
      have g1 : 0 ≤ x / y := Int.ediv_nonneg h0 (by omega)
      have g2 : x / y ≤ x := Int.ediv_le_self y h0
      unfold InI at h2 ⊢
      omega
    simp only [eqGuard_at_int, pure_bind, binOp_quo, Op.intDiv, if_neg hy, e, wrap_in hb, Sem.run_pure, SV.den, SA.den, SC.den]
  case rem =>
    obtain ⟨⟨h0, h1, h2⟩, h⟩ := h
    refine ⟨.i (x % y), fun w => ?_, trivial, h⟩
    have hy : ¬ y = 0 := by omega
    have e : x.tmod y = x % y := Int.tmod_eq_emod_of_nonneg h0
    simp only [eqGuard_at_int, pure_bind, binOp_rem, Op.intDiv, if_neg hy, e, Sem.run_pure, SV.den, SA.den, SC.den]
  all_goals
    refine ⟨_, ?_, ?_, h⟩
    · intro w; simp only [eqGuard_at_int, binOp_eql, binOp_neq, binOp_lss, binOp_leq, binOp_gtr, binOp_geq, pure_bind, Sem.run_pure]; rfl
    · exact trivial

theorem binU_sound {op : BinOp} {x y : Int} {k : SV → Prop} (h : binU op x y k) (t : TypeId) (p q : Operand) (n : Nat) :
    ∃ v, (∀ w, ((do eqGuard op t p q (.int .u64 x) (.int .u64 y); binOp op t (.int .u64 x) (.int .u64 y) : Sem Value)).run P w = .ok (v.den β) w) ∧ v.lt n ∧ k v := by
  cases op <;> simp only [binU] at h <;> try exact h.elim
  case shr =>
    obtain ⟨rfl, h⟩ := h
    refine ⟨.c (.u (x / 2)), fun w => ?_, trivial, h⟩
    simp only [eqGuard_at_int, pure_bind, binOp, Op.shift]
    rw [if_neg (by decide)]
    simp only [Sem.run_pure, SV.den, SA.den, SC.den]
    have e : min (1 : Int).toNat IntKind.u64.bits = 1 := by decide
    rw [e]
    have e2 : Int.fdiv x (2 ^ 1) = x / 2 := by rw [Int.fdiv_eq_ediv_of_nonneg _ (by decide)]; rfl
    rw [e2]
  all_goals
    refine ⟨_, ?_, ?_, h⟩
    · intro w; simp only [eqGuard_at_int, binOp_eql, binOp_neq, binOp_lss, binOp_leq, binOp_gtr, binOp_geq, pure_bind, Sem.run_pure]; rfl
    · exact trivial

theorem binC_sound {op : BinOp} {x y : Int} {k : SV → Prop} (h : binC op x y k) (t : TypeId) (p q : Operand) (n : Nat) :
    ∃ v, (∀ w, ((do eqGuard op t p q (.int .u8 x) (.int .u8 y); binOp op t (.int .u8 x) (.int .u8 y) : Sem Value)).run P w = .ok (v.den β) w) ∧ v.lt n ∧ k v := by
  cases op <;> simp only [binC] at h <;> try exact h.elim
  all_goals
    refine ⟨_, ?_, ?_, h⟩
    · intro w; simp only [eqGuard_at_int, binOp_eql, binOp_neq, binOp_lss, binOp_leq, binOp_gtr, binOp_geq, pure_bind, Sem.run_pure]; rfl
    · exact trivial

theorem equal_n0 {t : TypeId} {ms : _} (ht : P.underlying t = some (.interface ms)) (w : World) : (Op.equal t .nilIface .nilIface).run P w = .ok true w := by
  have key : ∀ d, (Op.equalIn (d + 1) t .nilIface .nilIface).run P w = .ok true w := by
    intro d; simp [Op.equalIn, run_underlying ht]
  exact key 9999
theorem equal_n1 {t : TypeId} {ms : _} (ht : P.underlying t = some (.interface ms)) (e : TypeId) (v : Value) (w : World) : (Op.equal t (.iface e v) .nilIface).run P w = .ok false w := by
  have key : ∀ d, (Op.equalIn (d + 1) t (.iface e v) .nilIface).run P w = .ok false w := by
    intro d; simp [Op.equalIn, run_underlying ht]
  exact key 9999

theorem binN_sound {op : BinOp} {x : Value} {k : SV → Prop} (h : binN op x k) (t : TypeId) {ms : _} (ht : P.underlying t = some (.interface ms)) (p : Operand) (c : Value) (n : Nat) :
    ∃ v, (∀ w, ((do eqGuard op t p (.const c) x .nilIface; binOp op t x .nilIface : Sem Value)).run P w = .ok (v.den β) w) ∧ v.lt n ∧ k v := by
  have hg : ∀ o, eqGuard o t p (.const c) .nilIface .nilIface = pure () := by
    intro o; unfold eqGuard; cases o <;> cases p <;> rfl
  have hg2 : ∀ o e v, eqGuard o t p (.const c) (.iface e v) .nilIface = pure () := by
    intro o e v; unfold eqGuard; cases o <;> rfl
  unfold binN at h
  split at h <;> try exact h.elim
  · refine ⟨.b true, fun w => ?_, trivial, h⟩
    rw [hg, pure_bind]
    simp only [binOp]
    simp [equal_n0 ht, SV.den, SA.den, SC.den]
  · refine ⟨.b false, fun w => ?_, trivial, h⟩
    rw [hg, pure_bind]
    simp only [binOp]
    simp [equal_n0 ht, SV.den, SA.den, SC.den]
  · refine ⟨.b false, fun w => ?_, trivial, h⟩
    rw [hg2, pure_bind]
    simp only [binOp]
    simp [equal_n1 ht, SV.den, SA.den, SC.den]
  · refine ⟨.b true, fun w => ?_, trivial, h⟩
    rw [hg2, pure_bind]
    simp only [binOp]
    simp [equal_n1 ht, SV.den, SA.den, SC.den]

theorem intsOf_den : ∀ {l : List SC} {xs : List Int}, intsOf l = some xs → l.map (SC.den β) = xs.map (Value.int .i64)
  | [], xs, h => by cases h; rfl
  | c :: l, xs, h => by
    cases c <;> simp only [intsOf] at h <;> try cases h
    split at h <;> cases h
    rename_i n m hm
    simp [SC.den, intsOf_den hm]

theorem cmpK_sound {op : BinOp} {xs ys : List Int} {k : SV → Prop} (h : cmpK op xs ys k) (t : TypeId) {z : Nat}
    (hc : (∀ (op : BinOp) (x y : Operand) (xs ys : Array Value) (w : World), (eqGuard op t x y (.agg xs) (.agg ys)).run P w = .ok () w) ∧
      ∀ (l m : List Int) (w : World), l.length = z → m.length = z → (Op.equalIn 10000 t (.agg (l.map (Value.int .i64)).toArray) (.agg (m.map (Value.int .i64)).toArray)).run P w = .ok (l == m) w)
    (hx : xs.length = z) (hy : ys.length = z) (p q : Operand) (n : Nat) :
    ∃ v, (∀ w, ((do eqGuard op t p q (.agg (xs.map (Value.int .i64)).toArray) (.agg (ys.map (Value.int .i64)).toArray); binOp op t (.agg (xs.map (Value.int .i64)).toArray) (.agg (ys.map (Value.int .i64)).toArray) : Sem Value)).run P w = .ok (v.den β) w) ∧ v.lt n ∧ k v := by
  cases op <;> simp only [cmpK] at h <;> try exact h.elim
  · refine ⟨_, fun w => ?_, ?_, h⟩
    · rw [Sem.run_bind, hc.1, Result.andThen_ok, run_eql_struct, hc.2 xs ys w hx hy]; rfl
    · exact trivial
  · refine ⟨_, fun w => ?_, ?_, h⟩
    · rw [Sem.run_bind, hc.1, Result.andThen_ok, run_neq_struct, hc.2 xs ys w hx hy]; rfl
    · exact trivial

theorem equal_nil {t e : TypeId} (ht : P.underlying t = some (.slice e)) (a : Option Addr) (l c : Nat) (w : World) : (Op.equal t (.slice a l c) (.slice none 0 0)).run P w = .ok a.isNone w := by
  have key : ∀ d, (Op.equalIn (d + 1) t (.slice a l c) (.slice none 0 0)).run P w = .ok a.isNone w := by
    intro d; cases a <;> simp [Op.equalIn, run_underlying ht]
  exact key 9999

theorem wrap_u {n : Int} (h : 0 ≤ n ∧ n ≤ 18446744073709551615) : IntKind.u64.wrap n = n := by
  simp [IntKind.wrap, IntKind.bits, IntKind.signed]; omega

theorem nilK_sound {op : BinOp} {a : Option Addr} {l c : Nat} {pr : Prop} {k : SV → Prop} (h : nilK op pr k) (t e : TypeId) (ht : P.underlying t = some (.slice e)) (ha : a = none → pr) (p q : Operand) (n : Nat) :
    ∃ v, (∀ w, ((do eqGuard op t p q (.slice a l c) (.slice none 0 0); binOp op t (.slice a l c) (.slice none 0 0) : Sem Value)).run P w = .ok (v.den β) w) ∧ v.lt n ∧ k v := by
  have hg : ∀ o, eqGuard o t p q (.slice a l c) (.slice none 0 0) = pure () := by
    intro o; unfold eqGuard; cases o <;> rfl
  cases op <;> simp only [nilK] at h <;> try exact h.elim
  · refine ⟨_, fun w => ?_, ?_, h a.isNone (fun e => ha (Option.isNone_iff_eq_none.1 e))⟩
    · rw [hg, pure_bind]
      simp only [binOp]
      simp [equal_nil ht, SV.den, SA.den, SC.den]
    · exact trivial
  · refine ⟨_, fun w => ?_, ?_, h a.isNone (fun e => ha (Option.isNone_iff_eq_none.1 e))⟩
    · rw [hg, pure_bind]
      simp only [binOp]
      simp [equal_nil ht, SV.den, SA.den, SC.den]
    · exact trivial

theorem binOp_eql_bool (t : TypeId) (x y : Bool) : binOp .eql t (.bool x) (.bool y) = (do pure (.bool (← Op.equal t (.bool x) (.bool y)))) := rfl
theorem binOp_neq_bool (t : TypeId) (x y : Bool) : binOp .neq t (.bool x) (.bool y) = (do pure (.bool (!(← Op.equal t (.bool x) (.bool y))))) := rfl
theorem run_equal_bool {t : TypeId} (hu : P.underlying t = some .bool) (x y : Bool) : (Op.equal t (.bool x) (.bool y)).run P w = .ok (x == y) w := by
  unfold Op.equal Op.maxDepth
  rw [show (10000 : Nat) = 9999 + 1 from rfl, Op.equalIn]
  simp only [Sem.run_bind, run_underlying hu, Result.andThen_ok, Sem.run_pure]

theorem binB_sound {kd : Nat} {op : BinOp} {x y : Bool} {k : SV → Prop} (h : binB kd op x y k) (t : TypeId) (ht : kd = 2 → P.underlying t = some .bool) (p q : Operand) (n : Nat) :
    ∃ v, (∀ w, ((do eqGuard op t p q (.bool x) (.bool y); binOp op t (.bool x) (.bool y) : Sem Value)).run P w = .ok (v.den β) w) ∧ v.lt n ∧ k v := by
  unfold binB at h
  split at h
  · rename_i hk
    rw [nbeq, decide_eq_true_eq] at hk
    have hu := ht hk
    cases op <;> simp only at h <;> try exact h.elim
    case eql => exact ⟨.b (x == y), fun w => by simp only [eqGuard_at_bool, pure_bind, binOp_eql_bool, Sem.run_bind, run_equal_bool hu, Result.andThen_ok, Sem.run_pure]; rfl, trivial, h⟩
    case neq => exact ⟨.b (!(x == y)), fun w => by simp only [eqGuard_at_bool, pure_bind, binOp_neq_bool, Sem.run_bind, run_equal_bool hu, Result.andThen_ok, Sem.run_pure]; rfl, trivial, h⟩
  · exact h.elim

theorem binS_sound {op : BinOp} {x y : ByteArray} {k : SV → Prop} (h : binS op x y k) (t : TypeId) (p q : Operand) (n : Nat) :
    ∃ v, (∀ w, ((do eqGuard op t p q (.string x) (.string y); binOp op t (.string x) (.string y) : Sem Value)).run P w = .ok (v.den β) w) ∧ v.lt n ∧ k v := by
  cases op <;> simp only [binS] at h <;> try exact h.elim
  case add =>
    obtain ⟨hb, h⟩ := h
    refine ⟨.c (.v (.string (x ++ y))), fun w => ?_, rfl, h⟩
    simp only [eqGuard_at_string, pure_bind, binOp, Op.stringOp]
    rw [if_neg (by have : IntKind.i64.max = 9223372036854775807 := rfl; rw [this]; omega)]
    rfl
  all_goals
    refine ⟨_, ?_, ?_, h⟩
    · intro w; simp only [eqGuard_at_string, pure_bind, binOp, Op.stringOp, Sem.run_pure]; rfl
    · exact trivial

end
end Go.Fw

/-
  The soundness of the quiet operations, joined.
-/
namespace Go.Fw
open Go

section
variable {P : Program} {ty : List (Nat × STy)} {β : Env} {Z : Nat → Prop} {fp : Nat → Nat → Prop} {s : S} {w : World} {N : NT} {a : Act}

theorem q_slice (hty : TyOk P ty) (hf : FSat β s N a) {k : SV → Prop} {dst : Option Nat} {T : TypeId} {x : Operand} {lo hi mx : Option Operand} {type : TypeId} {pos : String}
    {after : Array Edge} {guard : Option (Nat × Bool)} (h : qOp ty (.slice T x lo hi mx) s k) : QOk P β s a ⟨dst, .slice T x lo hi mx, type, pos, after, guard⟩ k := by
  cases mx with
  | some m => exact h.elim
  | none =>
  simp only [qOp] at h
  split at h <;> try exact h.elim
  rotate_left
  · rename_i d b hd hx
    split at h <;> try exact h.elim
    rename_i hkd
    rw [nbeq, decide_eq_true_eq] at hkd
    obtain ⟨l, h, hl⟩ := optI_sound hf _ _ _ h
    obtain ⟨u, h, hu⟩ := optI_sound hf _ _ _ h
    obtain ⟨⟨h0, h1, h2⟩, h⟩ := h
    obtain ⟨he, hlt⟩ := ev_den hf hx
    have hun := (hty T d hd).kd3 hkd
    have hb : ∀ w, (Instr.sliceBounds false b.size b.size (lo.map a.eval) (hi.map a.eval) none).run P w = .ok (l.toNat, u.toNat, b.size) w := by
      intro w
      rcases hu with ⟨rfl, rfl⟩ | ⟨y, rfl, hy⟩ <;> rcases hl with ⟨rfl, rfl⟩ | ⟨z, rfl, hz⟩
      · simp [Instr.sliceBounds]
      · simp [Instr.sliceBounds, Instr.sliceBound, asIntOf, hz, if_pos (And.intro h0 h1)]
      · simp [Instr.sliceBounds, Instr.sliceBound, asIntOf, hy, if_pos (And.intro (Int.le_trans h0 h1) h2)]
      · have h1' : l ≤ (u.toNat : Int) := by omega
        have h3 : 0 ≤ u := Int.le_trans h0 h1
        simp only [Instr.sliceBounds, Instr.sliceBound, asIntOf, Option.map_some, hy, hz, pure_bind, if_pos (And.intro h3 h2), if_pos (And.intro h0 h1'), Sem.run_pure]
    refine QOk.mk (.c (.v (.string (b.extract l.toNat u.toNat)))) (fun w => ?_) rfl h
    simp only [execOp, he, SV.den, SA.den, SC.den, Sem.run_bind, Instr.sliceAt, run_underlying hun, Result.andThen_ok, Instr.slice, Option.map_none, hb, Sem.run_pure, Option.isSome_none, Bool.false_eq_true, if_false]
  rename_i d id sz lo0 len cap hd hx
  split at h <;> try exact h.elim
  rename_i E ek by_ hsl
  split at h <;> try exact h.elim
  rename_i hsz
  rw [nbeq, decide_eq_true_eq] at hsz
  obtain ⟨l, h, hl⟩ := optI_sound hf _ _ _ h
  obtain ⟨u, h, hu⟩ := optI_sound hf _ _ _ h
  obtain ⟨⟨h0, h1, h2⟩, h⟩ := h
  obtain ⟨he, hlt⟩ := ev_den hf hx
  obtain ⟨hun, hE, _⟩ := (hty T d hd).sl _ _ _ hsl
  have hb : ∀ w, (Instr.sliceBounds true len cap (lo.map a.eval) (hi.map a.eval) none).run P w = .ok (l.toNat, u.toNat, cap) w := by
    intro w
    rcases hu with ⟨rfl, rfl⟩ | ⟨y, rfl, hy⟩ <;> rcases hl with ⟨rfl, rfl⟩ | ⟨z, rfl, hz⟩
    · simp [Instr.sliceBounds]
    · simp [Instr.sliceBounds, Instr.sliceBound, asIntOf, hz, if_pos (And.intro h0 h1)]
    · simp [Instr.sliceBounds, Instr.sliceBound, asIntOf, hy, if_pos (And.intro (Int.le_trans h0 h1) h2)]
    · have h1' : l ≤ (u.toNat : Int) := by omega
      have h3 : 0 ≤ u := Int.le_trans h0 h1
      simp only [Instr.sliceBounds, Instr.sliceBound, asIntOf, Option.map_some, hy, hz, pure_bind, if_pos (And.intro h3 h2), if_pos (And.intro h0 h1'), Sem.run_pure]
  have hrun : ∀ w, (execOp a.eval ⟨dst, .slice T x lo hi none, type, pos, after, guard⟩).run P w =
      .ok (.value (.slice (if cap = l.toNat then (β id).map (·.add (lo0 * sz)) else ((β id).map (·.add (lo0 * sz))).map (·.add (l.toNat * sz))) (u.toNat - l.toNat) (cap - l.toNat))) w := by
    intro w
    simp only [execOp, he, SV.den, SA.den, SC.den, Sem.run_bind, Instr.sliceAt, run_underlying hun, Result.andThen_ok, Instr.slice, Option.map_none, hb, hE, Sem.run_pure, hsz]
  rw [condP_iff] at h
  have hm : ∀ y : Addr, (y.add (lo0 * sz)).add (l.toNat * sz) = y.add ((lo0 + l.toNat) * sz) ∨ l.toNat * sz = 0 ∨ True := fun _ => .inr (.inr trivial)
  split at h
  · rename_i hc
    rw [decide_eq_true_eq] at hc
    refine QOk.mk (.c (.sl id sz (lo0 + l.toNat) (u - l).toNat (cap - l.toNat))) (fun w => ?_) hlt h
    rw [hrun, if_neg (by omega)]
    simp only [SV.den, SA.den, SC.den]
    congr 3
    · rw [Option.map_map]
      congr 1
      funext y
      simp only [Function.comp]
      have hss : ∀ (y : Addr) (m n : Nat), (y.add m).add n = y.add (m + n) := by
        intro y m n
        unfold Addr.add
        by_cases hm : m = 0
        · subst hm; simp
        · by_cases hn : n = 0
          · subst hn; simp
          · simp [hm, hn, Nat.add_assoc]
      rw [hss, Nat.add_mul]
    · omega
  · rename_i hc
    simp only [decide_eq_true_eq] at hc
    refine QOk.mk (.c (.sl id sz lo0 (u - l).toNat (cap - l.toNat))) (fun w => ?_) hlt h
    rw [hrun, if_pos (by omega)]
    simp only [SV.den, SA.den, SC.den]
    congr 3
    omega

theorem q_build (hty : TyOk P ty) (hf : FSat β s N a) {k : SV → Prop} {dst : Option Nat} {T : TypeId} {parts : Array (Nat × Operand)} {type : TypeId} {pos : String}
    {after : Array Edge} {guard : Option (Nat × Bool)} (h : qOp ty (.build T parts) s k) : QOk P β s a ⟨dst, .build T parts, type, pos, after, guard⟩ k := by
  simp only [qOp] at h
  split at h <;> try exact h.elim
  rename_i d hd
  split at h <;> try exact h.elim
  rename_i hagg
  have ht := hty T d hd
  obtain ⟨fields, hu, hfs⟩ := ht.str hagg
  have hz : ∀ c ∈ d.zero, SC.lt s.nx c := fun c hc => SC.lt_mono (Nat.zero_le _) (ht.zlt c hc)
  have hz0 : d.zero.map (SC.den fun _ => none) = d.zero.map (SC.den β) := SC.map_den_congr (n := 0) (fun id h => absurd h (by omega)) ht.zlt
  obtain ⟨l, hl, hll, hk⟩ := buildK_sound (β := β) hf d.offs (fun i => d.offs.toArray[i]?) (fun i p h => by simpa using h) _ _ _ hz h
  refine QOk.mk (.a (.agg l)) (fun w => ?_) hll hk
  have hb := ht.bt hagg (parts.map fun (i, x) => (i, a.eval x)).toList
  rw [hz0] at hb
  simp only [Array.toList_map] at hb
  rw [hl] at hb
  simp only [execOp, Sem.run_bind]
  rw [run_build w T _ _ (by simpa using hb)]
  rfl

def isLoad : Op → Bool
  | .load _ _ => true
  | .lookup _ _ _ _ => true
  | .entry _ => true
  | .call { callee := .builtin .len, .. } => true
  | _ => false

theorem findE_lk (kk vk : EK) (x : kk.ty) : ∀ (es : List (kk.ty × vk.ty × Nat)) (i : Nat), (findE kk vk x es i).map (·.2) = (lkM es x).map vk.val
  | [], i => rfl
  | (y, v, n) :: es, i => by
    simp only [findE, lkM]
    by_cases h : y = x
    · rw [if_pos h, if_pos h]; rfl
    · rw [if_neg h, if_neg h]; exact findE_lk kk vk x es (i + 1)

/-- A key as it stands in a slot. -/
theorem key_val {v : SV} {kk : EK} {cs : List SC} {key : kk.ty} (hc : cellsOf v = some cs) (hk : kk.ofSym cs = some key) (ha : eqB (isAggV v) kk.isAgg = true) : v.den β = kk.val key := by
  have hcells := ofSym_spec (β := β) hk
  cases v with
  | tup l => cases hc
  | a x =>
    cases x with
    | c c =>
      cases hc
      have hn : kk.isAgg = false := by
        cases h : kk.isAgg with
        | false => rfl
        | true => rw [h] at ha; cases ha
      simp only [List.map_cons, List.map_nil] at hcells
      show c.den β = kk.val key
      cases kk <;> first
        | (exact absurd hn (by decide))
        | (simp only [EK.cells, EK.sym, List.map_cons, List.map_nil, List.cons.injEq, and_true] at hcells; rw [hcells]; rfl)
    | agg l =>
      cases hc
      have hn : kk.isAgg = true := by
        cases h : kk.isAgg with
        | true => rfl
        | false => rw [h] at ha; cases ha
      show Value.agg (cs.map (SC.den β)).toArray = kk.val key
      rw [hcells]
      cases kk <;> first | (exact absurd hn (by decide)) | rfl

theorem run_getObj_at {b : Nat} {o : Obj} (h : w.heap[b]? = some o) (hc : ∀ x y z, o ≠ .cells x y z) : (getObj b).run P w = .ok o w := by
  cases o <;> first | (exact absurd rfl (hc _ _ _)) | simp [getObj, Sem.run, h]

theorem map_at (hs : HSat β Z fp s w) {id clk : Nat} {kk vk : EK} {es : List (kk.ty × vk.ty × Nat)} (h : look s.hp id = some (.map kk vk es clk)) :
    ∃ b, β id = some ⟨b, 0, none⟩ ∧ fp id b ∧ w.heap[b]? = some (.map (es.map (ent kk vk)).toArray clk) := hs.obj id _ h

theorem q_lookup (hty : TyOk P ty) (hs : HSat β Z fp s w) (hf : FSat β s N a) {k : SV → Prop} {dst : Option Nat} {T : TypeId} {x ix : Operand} {ok : Bool} {type : TypeId} {pos : String}
    {after : Array Edge} {guard : Option (Nat × Bool)} (h : qOp ty (.lookup T x ix ok) s k) : QOkW P β s w a ⟨dst, .lookup T x ix ok, type, pos, after, guard⟩ k := by
  simp only [qOp] at h
  split at h <;> try exact h.elim
  rename_i d id kv hd hx hi
  split at h <;> try exact h.elim
  rename_i kt kk vt vk kk0 vk0 es clk cs hmp hl hcs
  split at h <;> try exact h.elim
  rename_i key hk hb1 hb2 hag
  have e1 := EK.beq_eq hb1
  have e2 := EK.beq_eq hb2
  subst e1 e2
  rw [forceA_iff] at h
  obtain ⟨hex, _⟩ := ev_den hf hx
  obtain ⟨hei, _⟩ := ev_den hf hi
  obtain ⟨b, hb, _, hh⟩ := map_at hs hl
  have hm := (hty T d hd).mp _ _ _ _ hmp
  have hkv := key_val (β := β) hcs hk hag
  have hlk := findE_lk kk0 vk0 key es 0
  have hfk := hm.fk key es w
  have hrun : (Instr.lookup T (.map (some b)) (kk0.val key) ok).run P w = .ok (if ok then .tuple #[vk0.val ((lkM es key).getD vk0.dflt), .bool (lkM es key).isSome] else vk0.val ((lkM es key).getD vk0.dflt)) w := by
    unfold Instr.lookup
    simp only [Sem.run_bind, run_underlying hm.ty, Result.andThen_ok, run_getObj_at hh (by intro _ _ _ e; cases e), Sem.run_pure, hm.ck, hfk]
    cases hfe : findE kk0 vk0 key es 0 with
    | none =>
      rw [hfe] at hlk
      have hn : lkM es key = none := by cases hq : lkM es key with
        | none => rfl
        | some q => rw [hq] at hlk; cases hlk
      simp only [Sem.run_bind, hm.zv, Result.andThen_ok, Sem.run_pure, hn]
      cases ok <;> rfl
    | some p =>
      obtain ⟨i, v⟩ := p
      rw [hfe] at hlk
      cases hq : lkM es key with
      | none => rw [hq] at hlk; cases hlk
      | some q =>
        rw [hq] at hlk
        simp only [Option.map_some, Option.some.injEq] at hlk
        simp only [Sem.run_pure, Result.andThen_ok, hlk]
        cases ok <;> rfl
  have hmap : a.eval x = .map (some b) := by rw [hex]; simp [SV.den, SA.den, SC.den, hb]
  cases ok with
  | true =>
    refine QOkW.mk (.tup [vk0.symA ((lkM es key).getD vk0.dflt), .c (.b (lkM es key).isSome)]) ?_ ?_ h
    · simp only [execOp, hmap, hei, hkv, Sem.run_bind, hrun, Result.andThen_ok, Sem.run_pure]
      simp [SV.den, EK.symA_den]; rfl
    · intro c hc
      simp only [List.mem_cons, List.not_mem_nil, or_false] at hc
      rcases hc with rfl | rfl
      · exact EK.symA_lt _ _ _
      · trivial
  | false =>
    refine QOkW.mk (.a (vk0.symA ((lkM es key).getD vk0.dflt))) ?_ (EK.symA_lt _ _ _) h
    simp only [execOp, hmap, hei, hkv, Sem.run_bind, hrun, Result.andThen_ok, Sem.run_pure]
    simp [SV.den, EK.symA_den]

theorem q_entry (hs : HSat β Z fp s w) (hf : FSat β s N a) {k : SV → Prop} {dst : Option Nat} {x : Operand} {type : TypeId} {pos : String}
    {after : Array Edge} {guard : Option (Nat × Bool)} (h : qOp ty (.entry x) s k) : QOkW P β s w a ⟨dst, .entry x, type, pos, after, guard⟩ k := by
  simp only [qOp] at h
  split at h <;> try exact h.elim
  rename_i it hx
  split at h <;> try exact h.elim
  rename_i mid since seen last cur hl
  split at h <;> try exact h.elim
  rename_i kk vk es clk hl2
  obtain ⟨⟨hbo, rfl, hcur, hlast⟩, h⟩ := h
  have h := h hcur
  rw [forceA_iff, forceA_iff] at h
  obtain ⟨hex, _⟩ := ev_den hf hx
  obtain ⟨b, r, hb, _, hr, hh⟩ : ∃ b r, β it = some ⟨b, 0, none⟩ ∧ fp it b ∧ β mid = some ⟨r, 0, none⟩ ∧ w.heap[b]? = some (.mapIter (some r) since seen.toArray last) := hs.obj it _ hl
  obtain ⟨r', hr', _, hh2⟩ := map_at hs hl2
  rw [hr] at hr'
  cases hr'
  refine QOkW.mk (.tup [kk.symA es[cur].1, vk.symA es[cur].2.1]) ?_ ?_ h
  · obtain ⟨seen', hsn⟩ : ∃ l, seen = l ++ [es[cur].2.2] := by
      refine ⟨seen.dropLast, ?_⟩
      have hne : seen ≠ [] := by intro e; rw [e] at hlast; cases hlast
      rw [List.getLast?_eq_some_getLast hne] at hlast
      have := List.dropLast_concat_getLast hne
      rw [Option.some.inj hlast] at this
      exact this.symm
    have hrun := run_entry_at (P := P) w b r since seen'.toArray (es.map (ent kk vk)).toArray last (ent kk vk es[cur]) (by rw [hh, hsn]; simp [ent]) hh2 (List.mem_map.2 ⟨es[cur], List.getElem_mem hcur, rfl⟩) (by
      have e1 : ((es.map (ent kk vk)).toArray.toList.map (·.born)) = es.map (·.2.2) := by simp [ent]
      rw [e1]; exact hbo.1)
    have hp : a.eval x = .pointer (some ⟨b, 0, none⟩) := by rw [hex]; simp [SV.den, SA.den, SC.den, hb, Addr.add_lit]
    simp only [execOp, hp, Sem.run_bind, hrun, Result.andThen_ok, Sem.run_pure]
    simp [SV.den, EK.symA_den, ent]
  · intro c hc
    simp only [List.mem_cons, List.not_mem_nil, or_false] at hc
    rcases hc with rfl | rfl
    · exact EK.symA_lt _ _ _
    · exact EK.symA_lt _ _ _

theorem qOp_still (hty : TyOk P ty) (hs : BSat β s) (hf : FSat β s N a) {k : SV → Prop} {o : Oper} (hl : isLoad o.op = false) (h : qOp ty o.op s k) : QOk P β s a o k := by
  obtain ⟨dst, op, type, pos, after, guard⟩ := o
  cases op <;> try exact h.elim
  case move x =>
    simp only [qOp] at h
    split at h <;> try exact h.elim
    rename_i v hx
    obtain ⟨he, hlt⟩ := ev_den hf hx
    exact QOk.mk v (fun w => by simp [execOp, he]) hlt h
  case assign x =>
    simp only [qOp] at h
    split at h <;> try exact h.elim
    rename_i v hx
    obtain ⟨he, hlt⟩ := ev_den hf hx
    exact QOk.mk v (fun w => by simp [execOp, he]) hlt h
  case pick c x y =>
    simp only [qOp] at h
    split at h <;> try exact h.elim
    rename_i b v u hc hx hy
    obtain ⟨hec, _⟩ := ev_den hf hc
    obtain ⟨hex, hltx⟩ := ev_den hf hx
    obtain ⟨hey, hlty⟩ := ev_den hf hy
    rw [condP_iff] at h
    cases b with
    | true => exact QOk.mk v (fun w => by simp [execOp, hec, hex, SV.den, SA.den, SC.den, asBool]) hltx (by simpa using h)
    | false => exact QOk.mk u (fun w => by simp [execOp, hec, hey, SV.den, SA.den, SC.den, asBool]) hlty (by simpa using h)
  case fieldAddr T x f => exact q_fieldAddr hty hs hf h
  case load T x => cases hl
  case lookup => cases hl
  case entry => cases hl
  case indexAddr T x ix => exact q_index hty hs hf h
  case slice T x lo hi mx => exact q_slice hty hf h
  case index T x ix =>
    simp only [qOp] at h
    split at h <;> try exact h.elim
    rename_i d b n hd hx hi
    split at h <;> try exact h.elim
    rename_i hkd
    rw [nbeq, decide_eq_true_eq] at hkd
    obtain ⟨⟨h0, h1⟩, h⟩ := h
    obtain ⟨he, _⟩ := ev_den hf hx
    obtain ⟨hei, _⟩ := ev_den hf hi
    have hun := (hty T d hd).kd3 hkd
    have hn : n.toNat < b.size := by omega
    have hb : b[n.toNat]? = some (b.data.toList.getD n.toNat 0) := by
      have hn2 : n.toNat < b.data.toList.length := by simpa using hn
      rw [getElem?_pos b n.toNat hn]
      congr 1
      simp only [List.getD, List.getElem?_eq_getElem hn2, Option.getD_some]
      rfl
    refine QOk.mk (.c (.v (.int .u8 (byteA b n.toNat)))) (fun w => ?_) rfl h
    simp only [execOp, he, hei, SV.den, SA.den, SC.den, Sem.run_bind, Instr.index, asIntOf, pure_bind, run_underlying hun, Result.andThen_ok, if_pos h0, hb, Sem.run_pure, byteA]
  case build T parts => exact q_build hty hf h
  case nilCheck x =>
    simp only [qOp] at h
    split at h <;> try exact h.elim
    · rename_i id off hx
      split at h <;> try exact h.elim
      rename_i T cs hl
      obtain ⟨he, hlt⟩ := ev_den hf hx
      obtain ⟨b, hb⟩ := hs.box _ _ _ hl
      exact QOk.mk (.c (.ptr id off)) (fun w => by simp [execOp, he, SV.den, SA.den, SC.den, hb]) hlt h
    · rename_i id sz i off hx
      split at h <;> try exact h.elim
      rename_i own E ek xs sp hl
      obtain ⟨hi, h⟩ := h
      obtain ⟨he, hlt⟩ := ev_den hf hx
      obtain ⟨x', hb, hsp⟩ := hs.arr _ _ _ _ _ _ _ hl hi
      exact QOk.mk (.c (.elt id sz i off)) (fun w => by simp [execOp, he, SV.den, SA.den, SC.den, hb]) hlt h
    · rename_i f c hx
      obtain ⟨he, hlt⟩ := ev_den hf hx
      exact QOk.mk (.c (.fn f c)) (fun w => by simp [execOp, he, SV.den, SA.den, SC.den]) hlt h
    · rename_i f c hx
      obtain ⟨he, hlt⟩ := ev_den hf hx
      exact QOk.mk (.c (.fnv f c)) (fun w => by simp [execOp, he, SV.den, SA.den, SC.den]) hlt h
    · rename_i q hx
      obtain ⟨hq, h⟩ := h
      obtain ⟨he, hlt⟩ := ev_den hf hx
      cases q with
      | none => cases hq
      | some y => exact QOk.mk (.c (.q (some y))) (fun w => by simp [execOp, he, SV.den, SA.den, SC.den]) hlt h
  case binOp op T x y yt =>
    simp only [qOp] at h
    split at h <;> try exact h.elim
    · rename_i p q hx hy
      obtain ⟨hex, _⟩ := ev_den hf hx
      obtain ⟨hey, _⟩ := ev_den hf hy
      obtain ⟨v, hv, hl, hk⟩ := binI_sound (P := P) (β := β) h T x y s.nx
      refine QOk.mk v (fun w => ?_) hl hk
      have hv := hv w
      simp only [execOp, hex, hey, SV.den, SA.den, SC.den, Sem.run_bind] at hv ⊢
      rw [hv]; rfl
    · rename_i p q hx hy
      split at h <;> try exact h.elim
      rename_i d hd
      obtain ⟨hex, _⟩ := ev_den hf hx
      obtain ⟨hey, _⟩ := ev_den hf hy
      obtain ⟨v, hv, hl, hk⟩ := binB_sound (P := P) (β := β) h T (hty T d hd).kd2 x y s.nx
      refine QOk.mk v (fun w => ?_) hl hk
      have hv := hv w
      simp only [execOp, hex, hey, SV.den, SA.den, SC.den, Sem.run_bind] at hv ⊢
      rw [hv]; rfl
    · rename_i p q hx hy
      obtain ⟨hex, _⟩ := ev_den hf hx
      obtain ⟨hey, _⟩ := ev_den hf hy
      obtain ⟨v, hv, hl, hk⟩ := binS_sound (P := P) (β := β) h T x y s.nx
      refine QOk.mk v (fun w => ?_) hl hk
      have hv := hv w
      simp only [execOp, hex, hey, SV.den, SA.den, SC.den, Sem.run_bind] at hv ⊢
      rw [hv]; rfl
    · rename_i p q hx hy
      obtain ⟨hex, _⟩ := ev_den hf hx
      obtain ⟨hey, _⟩ := ev_den hf hy
      obtain ⟨v, hv, hl, hk⟩ := binU_sound (P := P) (β := β) h T x y s.nx
      refine QOk.mk v (fun w => ?_) hl hk
      have hv := hv w
      simp only [execOp, hex, hey, SV.den, SA.den, SC.den, Sem.run_bind] at hv ⊢
      rw [hv]; rfl
    · rename_i p q hx hy
      obtain ⟨hex, _⟩ := ev_den hf hx
      obtain ⟨hey, _⟩ := ev_den hf hy
      obtain ⟨v, hv, hl, hk⟩ := binC_sound (P := P) (β := β) h T x y s.nx
      refine QOk.mk v (fun w => ?_) hl hk
      have hv := hv w
      simp only [execOp, hex, hey, SV.den, SA.den, SC.den, Sem.run_bind] at hv ⊢
      rw [hv]; rfl
    · rename_i p hx hy
      split at h <;> try exact h.elim
      rename_i d hd hcy
      split at h <;> try exact h.elim
      rename_i hkd
      rw [nbeq, decide_eq_true_eq] at hkd
      obtain ⟨ms, hms⟩ := (hty T d hd).kd10 hkd
      obtain ⟨hex, _⟩ := ev_den hf hx
      obtain ⟨hey, _⟩ := ev_den hf hy
      cases y with
      | const c =>
        obtain ⟨v, hv, hl, hk⟩ := binN_sound (P := P) (β := β) h T hms x c s.nx
        refine QOk.mk v (fun w => ?_) hl hk
        have hv := hv w
        simp only [execOp, hex, hey, SV.den, SA.den, SC.den, Sem.run_bind] at hv ⊢
        rw [hv]; rfl
      | _ => cases hcy
    · rename_i l m hx hy
      split at h <;> try exact h.elim
      rename_i d hd
      split at h <;> try exact h.elim
      rename_i xs ys hk hxs hys
      split at h <;> try exact h.elim
      rename_i h1 h2
      rw [nbeq, decide_eq_true_eq] at hk h1 h2
      rw [lenN_eq, lenN_eq] at h1 h2
      obtain ⟨hex, _⟩ := ev_den hf hx
      obtain ⟨hey, _⟩ := ev_den hf hy
      obtain ⟨v, hv, hl, hk⟩ := cmpK_sound (P := P) (β := β) h T ((hty T d hd).cmp hk) h1 h2 x y s.nx
      refine QOk.mk v (fun w => ?_) hl hk
      have hv := hv w
      rw [← intsOf_den (β := β) hxs, ← intsOf_den (β := β) hys] at hv
      simp only [execOp, hex, hey, SV.den, SA.den, SC.den, Sem.run_bind] at hv ⊢
      rw [hv]; rfl
    · rename_i id sz lo len cap hx hy
      split at h <;> try exact h.elim
      rename_i d own E ek xs sp hd hl
      split at h <;> try exact h.elim
      rename_i q hq
      obtain ⟨E', ek', by_⟩ := q
      obtain ⟨hex, _⟩ := ev_den hf hx
      obtain ⟨hey, _⟩ := ev_den hf hy
      obtain ⟨hu, _⟩ := (hty _ _ hd).sl _ _ _ hq
      obtain ⟨v, hv, hl, hk⟩ := nilK_sound (P := P) (β := β) (a := (β id).map (·.add (lo * sz))) (l := len) (c := cap) h T E' hu (by
        intro e
        cases xs with
        | nil => rfl
        | cons x xs =>
          obtain ⟨y, hy, _⟩ := hs.arr _ _ _ _ _ _ 0 hl (by simp)
          rw [hy] at e; cases e) x y s.nx
      refine QOk.mk v (fun w => ?_) hl hk
      have hv := hv w
      simp only [execOp, hex, hey, SV.den, SA.den, SC.den, Sem.run_bind] at hv ⊢
      rw [hv]; rfl
  case unOp op T x =>
    cases op <;> try exact h.elim
    case not =>
      simp only [qOp] at h
      split at h <;> try exact h.elim
      rename_i c hx
      obtain ⟨he, _⟩ := ev_den hf hx
      exact QOk.mk (.b (!c)) (fun w => by simp [execOp, he, SV.den, SA.den, SC.den, Op.unary]) trivial h
    case neg =>
      simp only [qOp] at h
      split at h <;> try exact h.elim
      rename_i n hx
      obtain ⟨he, _⟩ := ev_den hf hx
      exact QOk.mk (.i (0 - n)) (fun w => by simp only [execOp, he, SV.den, SA.den, SC.den, Op.unary, Op.intArith, Sem.run_bind, Sem.run_pure, wrap_in h.ob, Result.andThen_ok]) trivial h.go
  case convert src dst' x =>
    have key : ∀ (kd kd' : Nat) (q q' : IntKind) (n : Int) (d e : STy), a.eval x = .int q n → look ty src = some d → look ty dst' = some e → P.underlying src = some (.int q) → P.underlying dst' = some (.int q') →
        ∀ w, (execOp a.eval ⟨dst, .convert src dst' x, type, pos, after, guard⟩).run P w = .ok (.value (.int q' (q'.wrap n))) w := by
      intro kd kd' q q' n d e he hd he' hu1 hu2 w
      simp only [execOp, he, Sem.run_bind]
      rw [run_convert_int w src dst' q n (by simp [hu1]) (by simp [hu2, Program.intKind])]
      simp [Program.intKind, hu2]
    have wu : ∀ n : Int, 0 ≤ n ∧ n ≤ 18446744073709551615 → IntKind.u64.wrap n = n := fun n hn => wrap_u hn
    simp only [qOp] at h
    split at h <;> try exact h.elim
    · rename_i n d e hx hd he'
      obtain ⟨he, _⟩ := ev_den hf hx
      split at h <;> try exact h.elim
      · rename_i h1 h2
        rw [nbeq, decide_eq_true_eq] at h1 h2
        refine QOk.mk (.i n) (fun w => ?_) trivial h.go
        rw [key 1 1 .i64 .i64 n d e he hd he' ((hty _ _ hd).kd1 h1) ((hty _ _ he').kd1 h2) w, wrap_in h.ob]; rfl
      · rename_i h1 _
        split at h <;> try exact h.elim
        · rename_i h2
          rw [nbeq, decide_eq_true_eq] at h1 h2
          refine QOk.mk (.c (.u n)) (fun w => ?_) trivial h.go
          rw [key 1 1 .i64 .u64 n d e he hd he' ((hty _ _ hd).kd1 h1) ((hty _ _ he').kd4 h2) w, wu n h.ob]; rfl
        · rename_i _ h2
          rw [nbeq, decide_eq_true_eq] at h1 h2
          have h8 : IntKind.u8.wrap n = n := by have := h.ob; simp [IntKind.wrap, IntKind.bits, IntKind.signed]; omega
          refine QOk.mk (.c (.v (.int .u8 n))) (fun w => ?_) rfl h.go
          rw [key 1 1 .i64 .u8 n d e he hd he' ((hty _ _ hd).kd1 h1) ((hty _ _ he').kd9 h2) w, h8]; rfl
    · rename_i n d e hx hd he'
      obtain ⟨he, _⟩ := ev_den hf hx
      split at h <;> try exact h.elim
      rename_i h1 h2
      rw [nbeq, decide_eq_true_eq] at h1 h2
      have hin : InI n := by have := h.ob; unfold InI; omega
      refine QOk.mk (.i n) (fun w => ?_) trivial h.go
      rw [key 1 1 .u8 .i64 n d e he hd he' ((hty _ _ hd).kd9 h1) ((hty _ _ he').kd1 h2) w, wrap_in hin]; rfl
    · rename_i n d e hx hd he'
      obtain ⟨he, _⟩ := ev_den hf hx
      split at h <;> try exact h.elim
      · rename_i h1 h2
        rw [nbeq, decide_eq_true_eq] at h1 h2
        refine QOk.mk (.i n) (fun w => ?_) trivial h.go
        rw [key 1 1 .u64 .i64 n d e he hd he' ((hty _ _ hd).kd4 h1) ((hty _ _ he').kd1 h2) w, wrap_in h.ob]; rfl
      · rename_i h1 _
        split at h <;> try exact h.elim
        rename_i h2
        rw [nbeq, decide_eq_true_eq] at h1 h2
        refine QOk.mk (.c (.u n)) (fun w => ?_) trivial h.go
        rw [key 1 1 .u64 .u64 n d e he hd he' ((hty _ _ hd).kd4 h1) ((hty _ _ he').kd4 h2) w, wu n h.ob]; rfl
  case extract x i =>
    simp only [qOp] at h
    split at h <;> try exact h.elim
    rename_i l hx
    split at h <;> try exact h.elim
    rename_i v hv
    obtain ⟨he, hlt⟩ := ev_den hf hx
    rw [nthN_eq] at hv
    refine QOk.mk (.a v) (fun w => ?_) (hlt v (List.mem_of_getElem? hv)) h
    simp [execOp, he, SV.den, Instr.extract, hv]
  case makeFunc fn first caps =>
    cases fn <;> try exact h.elim
    rename_i f
    simp only [qOp] at h
    split at h <;> try exact h.elim
    · rename_i hfirst
      obtain ⟨r, hr, hrl, hk⟩ := capsK_sound (β := β) hf _ _ h
      refine QOk.mk (.c (.fn f r)) (fun w => ?_) hrl hk
      have h1 : first.map a.eval = #[] := by apply Array.ext'; simp [hfirst]
      have h2 : caps.map a.eval = (r.map (fun p => Value.pointer ((β p.1).map (·.add p.2)))).toArray := by apply Array.ext'; simp [← hr]
      simp [execOp, Instr.makeFunc, h1, h2, SV.den, SA.den, SC.den]
    rename_i x hfirst
    split at h <;> try exact h.elim
    rename_i id off hcaps hx
    obtain ⟨he, hlt⟩ := ev_den hf hx
    refine QOk.mk (.c (.fm f id off)) (fun w => ?_) hlt h
    have h1 : first.map a.eval = #[a.eval x] := by apply Array.ext'; simp [hfirst]
    have h2 : caps.map a.eval = #[] := by apply Array.ext'; simp [hcaps]
    simp [execOp, Instr.makeFunc, h1, h2, he, SV.den, SA.den, SC.den]
  case call c =>
    obtain ⟨callee, args, argTypes⟩ := c
    cases callee <;> try exact h.elim
    rename_i bi
    cases bi <;> first | exact h.elim | cases hl

theorem q_len (hty : TyOk P ty) (hs : HSat β Z fp s w) (hf : FSat β s N a) {k : SV → Prop} {dst : Option Nat} {args : Array Operand} {argTypes : Array TypeId} {type : TypeId} {pos : String}
    {after : Array Edge} {guard : Option (Nat × Bool)} (h : qOp ty (.call ⟨.builtin .len, args, argTypes⟩) s k) : QOkW P β s w a ⟨dst, .call ⟨.builtin .len, args, argTypes⟩, type, pos, after, guard⟩ k := by
    simp only [qOp] at h
    split at h <;> try exact h.elim
    rename_i x t h1 h2
    have ha : args = #[x] := by apply Array.ext'; simp [h1]
    have hat : argTypes = #[t] := by apply Array.ext'; simp [h2]
    subst ha hat
    split at h <;> try exact h.elim
    · rename_i id sz lo n cap d hx hd
      split at h <;> try exact h.elim
      rename_i q hq
      obtain ⟨E, ek, by_⟩ := q
      obtain ⟨he, _⟩ := ev_den hf hx
      obtain ⟨hu, _⟩ := (hty _ _ hd).sl _ _ _ hq
      refine QOkW.mk (.i n) ?_ trivial h
      simp [execOp, resolve, invoke, builtin, he, SV.den, SA.den, SC.den, Builtin.len_, run_underlying hu, goInt]
    · rename_i d hx hd
      split at h <;> try exact h.elim
      rename_i q hq
      obtain ⟨E, ek, by_⟩ := q
      obtain ⟨he, _⟩ := ev_den hf hx
      obtain ⟨hu, _⟩ := (hty _ _ hd).sl _ _ _ hq
      refine QOkW.mk (.i 0) ?_ trivial h
      simp [execOp, resolve, invoke, builtin, he, SV.den, SA.den, SC.den, Builtin.len_, run_underlying hu, goInt]
    · rename_i hd0 d hx hd
      split at h <;> try exact h.elim
      rename_i q hq
      obtain ⟨E, ek, by_⟩ := q
      obtain ⟨he, _⟩ := ev_den hf hx
      obtain ⟨hu, _⟩ := (hty _ _ hd).sl _ _ _ hq
      refine QOkW.mk (.i hd0.n) ?_ trivial h
      simp [execOp, resolve, invoke, builtin, he, SV.den, SA.den, SC.den, Builtin.len_, run_underlying hu, goInt]
    · rename_i id d hx hd
      split at h <;> try exact h.elim
      rename_i q kk vk es clk hmp hl
      obtain ⟨kt, kk', vt, vk'⟩ := q
      obtain ⟨he, _⟩ := ev_den hf hx
      obtain ⟨b, hb, _, hh⟩ := map_at hs hl
      have hm := (hty _ _ hd).mp _ _ _ _ hmp
      refine QOkW.mk (.i es.length) ?_ trivial h
      simp [execOp, resolve, invoke, builtin, he, SV.den, SA.den, SC.den, hb, Builtin.len_, run_underlying hm.ty, goInt, run_getObj_at hh (by intro _ _ _ e; cases e)]
    · rename_i b d hx hd
      split at h <;> try exact h.elim
      rename_i hk
      rw [nbeq, decide_eq_true_eq] at hk
      obtain ⟨he, _⟩ := ev_den hf hx
      have hu := (hty _ _ hd).kd3 hk
      refine QOkW.mk (.i b.size) ?_ trivial h
      simp [execOp, resolve, invoke, builtin, he, SV.den, SA.den, SC.den, Builtin.len_, run_underlying hu, goInt]

theorem qOp_sound (hty : TyOk P ty) (hs : HSat β Z fp s w) (hf : FSat β s N a) {k : SV → Prop} {o : Oper} (h : qOp ty o.op s k) : QOkW P β s w a o k := by
  cases hl : isLoad o.op with
  | false => obtain ⟨v, h1, h2, h3⟩ := qOp_still hty hs.b hf hl h; exact ⟨v, h1 w, h2, h3⟩
  | true =>
    obtain ⟨dst, op, type, pos, after, guard⟩ := o
    cases op <;> first
      | exact q_load hty hs hf h
      | exact q_lookup hty hs hf h
      | exact q_entry hs hf h
      | (cases hl; done)
      | skip
    rename_i c
    obtain ⟨callee, args, argTypes⟩ := c
    cases callee <;> first | (cases hl; done) | skip
    rename_i bi
    cases bi <;> first | exact q_len hty hs hf h | (cases hl; done)

end
end Go.Fw

/-
  Operations that make or write memory: definitions, and the laws of the symbolic heap.
-/
namespace Go.Fw
open Go

def delK {α : Type} : List (Nat × α) → Nat → List (Nat × α)
  | [], _ => []
  | (t, v) :: l, u => match Nat.beq t u with
    | true => delK l u
    | false => (t, v) :: delK l u

def delC {α : Type} : List (Nat × α) → Nat → (List (Nat × α) → Prop) → Prop
  | [], _, k => k []
  | (t, v) :: l, u, k => match Nat.beq t u with
    | true => delC l u k
    | false => delC l u fun l' => k ((t, v) :: l')

theorem delC_iff {α : Type} (l : List (Nat × α)) (u : Nat) (k : List (Nat × α) → Prop) : delC l u k ↔ k (delK l u) := by
  induction l generalizing k with
  | nil => exact Iff.rfl
  | cons p l ih =>
    obtain ⟨t, v⟩ := p
    simp only [delC, delK]
    split <;> exact ih _

theorem look_delK {α : Type} (l : List (Nat × α)) (u id : Nat) : look (delK l u) id = if u = id then none else look l id := by
  induction l with
  | nil => simp [delK, look]
  | cons p l ih =>
    obtain ⟨t, v⟩ := p
    simp only [delK, nbeq]
    by_cases h : t = u
    · subst h
      simp only [decide_true, ih, look_cons]
      by_cases hu : t = id <;> simp [hu]
    · simp only [h, decide_false, look_cons, ih]
      by_cases hu : t = id
      · subst hu
        simp [Ne.symm h]
      · simp [hu]

/-- What lies behind a slice, told. -/
def elemsK (ek : EK) (fr : List (Nat × SV)) : Nat → List (Nat × Operand) → (List ek.ty → Prop) → Prop
  | _, [], k => k []
  | n, (i, x) :: r, k => match Nat.beq i n, ev fr x with
    | true, some v => match cellsOf v with
      | some cs => match ek.ofSym cs with
        | some e => elemsK ek fr (n + 1) r fun l => k (e :: l)
        | none => False
      | none => False
    | _, _ => False

/-- A slice's elements, as a list. -/
def sub {α : Type} (xs : List α) (lo n : Nat) : List α := (xs.drop lo).take n

structure Ext (Z : Nat → Prop) (w w' : World) : Prop where
  os : w'.os = w.os
  tape : w'.tape = w.tape
  output : w'.output = w.output
  size : w.heap.size ≤ w'.heap.size
  block : ∀ b, Z b → w'.heap[b]? = w.heap[b]?

theorem Ext.refl (Z : Nat → Prop) (w : World) : Ext Z w w := ⟨rfl, rfl, rfl, Nat.le_refl _, fun _ _ => rfl⟩
theorem Ext.trans {Z Z' : Nat → Prop} {w w' w'' : World} (h : Ext Z w w') (h' : Ext Z' w' w'') (hz : ∀ b, Z b → Z' b) : Ext Z w w'' :=
  ⟨h'.os.trans h.os, h'.tape.trans h.tape, h'.output.trans h.output, Nat.le_trans h.size h'.size, fun b hb => (h'.block b (hz b hb)).trans (h.block b hb)⟩
theorem Ext.mono {Z Z' : Nat → Prop} {w w' : World} (h : Ext Z w w') (hz : ∀ b, Z' b → Z b) : Ext Z' w w' :=
  ⟨h.os, h.tape, h.output, h.size, fun b hb => h.block b (hz b hb)⟩

theorem SO.ok_mono {β γ : Env} {Z Z' fp : Nat → Prop} {w w' : World} {oa : Option Addr} {o : SO} {n : Nat} (h : o.ok β Z fp w oa) (hlt : o.lt n)
    (hβ : ∀ id, id < n → γ id = β id) (hZ : ∀ b, Z b → Z' b) (hw : ∀ b, Z b ∨ fp b → w'.heap[b]? = w.heap[b]?) (hs : w.heap.size ≤ w'.heap.size) (hz0 : Z 0) : o.ok γ Z' fp w' oa := by
  cases o with
  | box T cs =>
    obtain ⟨b, h1, h2, h3⟩ := h
    exact ⟨b, h1, h2, by rw [hw b (.inr h2), h3, SC.map_den_congr hβ hlt]⟩
  | arr own E k xs sp =>
    cases oa with
    | none => exact h
    | some a =>
      cases own with
      | true =>
        obtain ⟨h1, h2, pre, post, h3, h4, h5⟩ := h
        exact ⟨h1, h2, pre, post, by rw [hw _ (.inr h2), h3], h4, h5⟩
      | false =>
        intro hne
        obtain ⟨h1, h2, h3, h4⟩ := h hne
        refine ⟨h1, hZ _ h2, by omega, fun j v hj => ?_⟩
        have := h4 j v hj
        obtain ⟨b, o, spt⟩ := a
        cases h1
        rw [Addr.add_lit] at this ⊢
        simp only [World.cell?] at this ⊢
        rw [hw _ (.inl h2)]
        exact this
  | pool E k m => exact ⟨fun a xs sp hl => by
      obtain ⟨h1, h2, pre, post, h3, h4, h5⟩ := h.row a xs sp hl
      exact ⟨h1, h2, pre, post, by rw [hw _ (.inr h2), h3], h4, h5⟩, h.one⟩
  | map kk vk es clk =>
    obtain ⟨b, h1, h2, h3⟩ := h
    exact ⟨b, h1, h2, by rw [hw _ (.inr h2), h3]⟩
  | iter mid since seen last cur =>
    obtain ⟨b, r, h1, h2, h3, h4⟩ := h
    exact ⟨b, r, h1, h2, (hβ mid hlt).trans h3, by rw [hw _ (.inr h2), h4]⟩
  | gen A => exact ⟨h.2 _ (fun b hb => hw b (.inr hb)) (hw 0 (.inl hz0)), fun w'' hw' h0 => h.2 w'' (fun b hb => by rw [hw' b hb, hw b (.inr hb)]) (by rw [h0, hw 0 (.inl hz0)])⟩

section
variable {β : Env} {Z : Nat → Prop} {fp : Nat → Nat → Prop} {s : S} {w : World}

/-- An object is put in the place of one, its block alone having changed. -/
theorem HSat.put (hs : HSat β Z fp s w) {id : Nat} {o o' : SO} (hl : look s.hp id = some o) {w' : World} (hw : ∀ b, ¬ fp id b → w'.heap[b]? = w.heap[b]?) (hsz : w'.heap.size = w.heap.size)
    (ho : o'.ok β Z (fp id) w' (β id)) (hlt : o'.lt s.nx) : HSat β Z fp ⟨s.fr, upd s.hp id o', s.nx⟩ w' := by
  have hlook : ∀ id' o'', look (upd s.hp id o') id' = some o'' → (id = id' ∧ o'' = o') ∨ (id ≠ id' ∧ look s.hp id' = some o'') := by
    intro id' o'' h
    rw [look_upd] at h
    split at h
    · rename_i e; exact .inl ⟨e, by cases h; rfl⟩
    · rename_i e; exact .inr ⟨e, h⟩
  refine ⟨⟨hs.zlt'.1, fun b hb => by rw [hsz]; exact hs.zlt b hb⟩, ?_, ?_, ?_, ?_⟩
  · intro id' o'' h b hb
    rw [hsz]
    rcases hlook _ _ h with ⟨rfl, _⟩ | ⟨_, h'⟩
    · exact hs.flt _ _ hl b hb
    · exact hs.flt _ _ h' b hb
  · intro i j oi oj hi hj hij b hb
    have : ∀ x ox, look (upd s.hp id o') x = some ox → ∃ oy, look s.hp x = some oy := by
      intro x ox hx
      rcases hlook _ _ hx with ⟨rfl, _⟩ | ⟨_, h'⟩
      · exact ⟨_, hl⟩
      · exact ⟨_, h'⟩
    obtain ⟨oi', hi'⟩ := this _ _ hi
    obtain ⟨oj', hj'⟩ := this _ _ hj
    exact hs.sep i j _ _ hi' hj' hij b hb
  · intro id' o'' h
    rcases hlook _ _ h with ⟨rfl, rfl⟩ | ⟨hne, h'⟩
    · exact ho
    · refine SO.ok_mono (hs.obj _ _ h') (hs.lto _ _ h').2 (fun _ _ => rfl) (fun _ h => h) ?_ (by omega) hs.zlt'.1
      intro b hb
      refine hw b fun hf => ?_
      rcases hb with hb | hb
      · exact (hs.flt _ _ hl b hf).2 hb
      · exact hs.sep id id' _ _ hl h' hne b hf hb
  · intro id' o'' h
    rcases hlook _ _ h with ⟨rfl, rfl⟩ | ⟨hne, h'⟩
    · exact ⟨(hs.lto _ _ hl).1, hlt⟩
    · exact hs.lto _ _ h'

theorem heap_alloc_lt {o : Obj} {b : Nat} (h : b < w.heap.size) : (w.alloc o).heap[b]? = w.heap[b]? := by
  simp only [World.alloc, Array.getElem?_push]
  rw [if_neg (by omega)]
theorem heap_alloc_at (o : Obj) : (w.alloc o).heap[w.heap.size]? = some o := by
  show (w.heap.push o)[w.heap.size]? = some o
  simp

/-- The environment with a new object. -/
def Env.add (β : Env) (n : Nat) (x : Option Addr) : Env := fun i => if i = n then x else β i
theorem Env.add_lt {β : Env} {n : Nat} {x : Option Addr} : ∀ id, id < n → β.add n x id = β id := by
  intro id h
  simp [Env.add]; omega
theorem Env.add_at {β : Env} {n : Nat} {x : Option Addr} : β.add n x n = x := by simp [Env.add]

/-- A new object, in a world that has kept all that the others speak of. -/
theorem HSat.add (hs : HSat β Z fp s w) {o : SO} {w' : World} {x : Option Addr} {q : Nat → Prop} (hw : ∀ b, b < w.heap.size → w'.heap[b]? = w.heap[b]?) (hsz : w.heap.size ≤ w'.heap.size)
    (hq : ∀ b, q b → w.heap.size ≤ b ∧ b < w'.heap.size) (ho : o.ok (β.add s.nx x) Z q w' x) (hlt : o.lt s.nx) :
    HSat (β.add s.nx x) Z (fun i => if i = s.nx then q else fp i) ⟨s.fr, (s.nx, o) :: s.hp, s.nx + 1⟩ w' := by
  have hne : ∀ id o', look s.hp id = some o' → id ≠ s.nx := fun id o' h e => by have := (hs.lto _ _ h).1; omega
  have hlook : ∀ id' o'', look ((s.nx, o) :: s.hp) id' = some o'' → (id' = s.nx ∧ o'' = o) ∨ (id' ≠ s.nx ∧ look s.hp id' = some o'') := by
    intro id' o'' h
    rw [look_cons] at h
    split at h
    · rename_i e; exact .inl ⟨e.symm, by cases h; rfl⟩
    · rename_i e; exact .inr ⟨fun e' => e e'.symm, h⟩
  refine ⟨⟨hs.zlt'.1, fun b hb => Nat.lt_of_lt_of_le (hs.zlt b hb) hsz⟩, ?_, ?_, ?_, ?_⟩
  · intro id' o'' h b hb
    rcases hlook _ _ h with ⟨rfl, rfl⟩ | ⟨h1, h'⟩
    · simp only [if_true] at hb
      have := hq b hb
      exact ⟨this.2, fun hz => by have := hs.zlt b hz; omega⟩
    · simp only [if_neg h1] at hb
      have := hs.flt _ _ h' b hb
      exact ⟨by omega, this.2⟩
  · intro i j oi oj hi hj hij b hb hb'
    rcases hlook _ _ hi with ⟨rfl, rfl⟩ | ⟨h1, h1'⟩ <;> rcases hlook _ _ hj with ⟨rfl, rfl⟩ | ⟨h2, h2'⟩
    · exact hij rfl
    · simp only [if_true] at hb
      simp only [if_neg h2] at hb'
      have := hq b hb
      have := (hs.flt _ _ h2' b hb').1
      omega
    · simp only [if_true] at hb'
      simp only [if_neg h1] at hb
      have := hq b hb'
      have := (hs.flt _ _ h1' b hb).1
      omega
    · simp only [if_neg h1] at hb
      simp only [if_neg h2] at hb'
      exact hs.sep i j _ _ h1' h2' hij b hb hb'
  · intro id' o'' h
    rcases hlook _ _ h with ⟨rfl, rfl⟩ | ⟨h1, h'⟩
    · simp only [if_true, Env.add_at]; exact ho
    · have hl := hs.lto _ _ h'
      simp only [if_neg h1]
      rw [Env.add_lt id' hl.1]
      refine SO.ok_mono (hs.obj _ _ h') hl.2 Env.add_lt (fun _ h => h) ?_ hsz hs.zlt'.1
      intro b hb
      refine hw b ?_
      rcases hb with hb | hb
      · exact hs.zlt b hb
      · exact (hs.flt _ _ h' b hb).1
  · intro id' o'' h
    rcases hlook _ _ h with ⟨rfl, rfl⟩ | ⟨h1, h'⟩
    · exact ⟨by show s.nx < s.nx + 1; omega, SO.lt_mono (by show s.nx ≤ s.nx + 1; omega) hlt⟩
    · exact ⟨by show id' < s.nx + 1; have := (hs.lto _ _ h').1; omega, SO.lt_mono (by show s.nx ≤ s.nx + 1; omega) (hs.lto _ _ h').2⟩

/-- An object is let go. -/
theorem HSat.del (hs : HSat β Z fp s w) (id : Nat) : HSat β Z fp ⟨s.fr, delK s.hp id, s.nx⟩ w := by
  have hlook : ∀ id' o'', look (delK s.hp id) id' = some o'' → look s.hp id' = some o'' := by
    intro id' o'' h
    rw [look_delK] at h
    split at h
    · cases h
    · exact h
  exact ⟨hs.zlt', fun _ _ h => hs.flt _ _ (hlook _ _ h), fun _ _ _ _ h h' => hs.sep _ _ _ _ (hlook _ _ h) (hlook _ _ h'), fun _ _ h => hs.obj _ _ (hlook _ _ h), fun _ _ h => hs.lto _ _ (hlook _ _ h)⟩

/-- An object goes on under a new number, its block alone having changed. -/
theorem HSat.move (hs : HSat β Z fp s w) {id : Nat} {o o' : SO} (hl : look s.hp id = some o) {w' : World} {x : Option Addr} (hw : ∀ b, ¬ fp id b → w'.heap[b]? = w.heap[b]?) (hsz : w'.heap.size = w.heap.size)
    (ho : o'.ok (β.add s.nx x) Z (fp id) w' x) (hlt : o'.lt s.nx) : HSat (β.add s.nx x) Z (fun i => if i = s.nx then fp id else fp i) ⟨s.fr, (s.nx, o') :: delK s.hp id, s.nx + 1⟩ w' := by
  have hlook : ∀ id' o'', look ((s.nx, o') :: delK s.hp id) id' = some o'' → (id' = s.nx ∧ o'' = o') ∨ (id' ≠ s.nx ∧ id ≠ id' ∧ look s.hp id' = some o'') := by
    intro id' o'' h
    rw [look_cons] at h
    split at h
    · rename_i e; exact .inl ⟨e.symm, by cases h; rfl⟩
    · rename_i e
      rw [look_delK] at h
      split at h
      · cases h
      · rename_i e2; exact .inr ⟨fun e' => e e'.symm, e2, h⟩
  refine ⟨⟨hs.zlt'.1, fun b hb => by rw [hsz]; exact hs.zlt b hb⟩, ?_, ?_, ?_, ?_⟩
  · intro id' o'' h b hb
    rw [hsz]
    rcases hlook _ _ h with ⟨rfl, rfl⟩ | ⟨h1, h2, h'⟩
    · simp only [if_true] at hb; exact hs.flt _ _ hl b hb
    · simp only [if_neg h1] at hb; exact hs.flt _ _ h' b hb
  · intro i j oi oj hi hj hij b hb hb'
    rcases hlook _ _ hi with ⟨rfl, rfl⟩ | ⟨h1, h1e, h1'⟩ <;> rcases hlook _ _ hj with ⟨rfl, rfl⟩ | ⟨h2, h2e, h2'⟩
    · exact hij rfl
    · simp only [if_true] at hb
      simp only [if_neg h2] at hb'
      exact hs.sep id j _ _ hl h2' h2e b hb hb'
    · simp only [if_true] at hb'
      simp only [if_neg h1] at hb
      exact hs.sep id i _ _ hl h1' h1e b hb' hb
    · simp only [if_neg h1] at hb
      simp only [if_neg h2] at hb'
      exact hs.sep i j _ _ h1' h2' hij b hb hb'
  · intro id' o'' h
    rcases hlook _ _ h with ⟨rfl, rfl⟩ | ⟨h1, h2, h'⟩
    · simp only [if_true, Env.add_at]; exact ho
    · have hl' := hs.lto _ _ h'
      simp only [if_neg h1]
      rw [Env.add_lt id' hl'.1]
      refine SO.ok_mono (hs.obj _ _ h') hl'.2 Env.add_lt (fun _ h => h) ?_ (by omega) hs.zlt'.1
      intro b hb
      refine hw b fun hf => ?_
      rcases hb with hb | hb
      · exact (hs.flt _ _ hl b hf).2 hb
      · exact hs.sep id id' _ _ hl h' h2 b hf hb
  · intro id' o'' h
    rcases hlook _ _ h with ⟨rfl, rfl⟩ | ⟨h1, h2, h'⟩
    · exact ⟨by show s.nx < s.nx + 1; omega, SO.lt_mono (by show s.nx ≤ s.nx + 1; omega) hlt⟩
    · exact ⟨by show id' < s.nx + 1; have := (hs.lto _ _ h').1; omega, SO.lt_mono (by show s.nx ≤ s.nx + 1; omega) (hs.lto _ _ h').2⟩

end
end Go.Fw
