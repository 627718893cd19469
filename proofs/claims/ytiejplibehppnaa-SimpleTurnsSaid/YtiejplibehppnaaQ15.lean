/-
  A function that ranges over a function, from its text.
-/
import Derived.Test.YtiejplibehppnaaQ14
import Derived.Test.YtiejplibehppnaaQ12

set_option linter.unusedSimpArgs false
set_option linter.unusedVariables false

namespace Go.Fw
open Go

/-- What is no longer looked at. -/
def junkO : SO := .gen fun _ _ _ _ => True
theorem junkO_ok {β : Env} {Z : Nat → Prop} {fp : Nat → Prop} {w : World} {oa : Option Addr} : junkO.ok β Z fp w oa := ⟨trivial, fun _ _ _ _ => trivial⟩

/-- The objects from of old lie where they lay. -/
def EIt (n1 : Nat) (β1 : Env) : Env → Prop := fun β => ∀ id, id < n1 → β id = β1 id

/-- The loop's record, as it stands between the rounds. -/
structure RecOk (N : Nat) (fr : List (Nat × SV)) (β1 : Env) (n1 p q i1 : Nat) (ops1 : Array Oper) (i2 : Nat) (ops2 : Array Oper) (b i3 : Nat) (ops3 : Array Oper) (r : Loop) : Prop where
  rd : r.state = .ready
  pd : r.pending = none
  ps : r.params = #[p, q]
  has : r.assign = .seq (.region i1 ops1 false) (.region i2 ops2 false)
  bo : r.body = .block b (.region i3 ops3 false)
  sz : r.tmps.size = N
  fr : ∀ t v, look fr t = some v → r.tmps[t]? = some (v.den β1) ∧ v.lt n1

theorem HSat.junk {β : Env} {Z : Nat → Prop} {fp : Nat → Nat → Prop} {s : S} {w : World} (hs : HSat β Z fp s w) {id l : Nat} {o : SO} (x : Obj) (hl : look s.hp id = some o) (hfl : fp id l) : HSat β Z fp ⟨s.fr, upd s.hp id junkO, s.nx⟩ (w.putObj l x) :=
  hs.put hl (fun b hb => putObj_other (fun e => hb (e ▸ hfl))) (by simp [World.putObj]) junkO_ok trivial

theorem res_end {P : Program} {ty : List (Nat × STy)} (hty : TyOk P ty) {C : Ctx} {fn : Func} {post : SV → S → Prop} {s : S} {a : Act} {w' : World} (hr : retK ty fn.results.toList post s) (hsat' : Sat C s a w') :
    ∃ v β' Z' fp', (results fn a.tmps).run P w' = .ok (v.den β') w' ∧ HSat β' Z' fp' s w' ∧ Cok C β' Z' s w' ∧ v.lt s.nx ∧ post v s := by
  obtain ⟨β', Z', fp', hs', hf', hc'⟩ := hsat'
  obtain ⟨r, hk, hl, hrun⟩ := resK_sound hty hs' hf' _ _ hr
  have hrun2 : (results fn a.tmps).run P w' = .ok (if h : (r.map (SA.den β')).toArray.size = 1 then (r.map (SA.den β')).toArray[0] else .tuple (r.map (SA.den β')).toArray) w' := by
    have e1 : results fn a.tmps = (do let vs ← fn.results.mapM (resOne a.tmps); pure (if h : vs.size = 1 then vs[0] else .tuple vs)) := rfl
    rw [e1, Sem.run_bind, Array.mapM_eq_mapM_toList]
    simp only [Sem.run_map, hrun, Result.andThen_ok, Sem.run_pure]
  match r, hk, hl, hrun2 with
  | [x], hk, hl, hrun2 => exact ⟨.a x, β', Z', fp', by simpa [SV.den] using hrun2, hs', hc', hl x (by simp), hk⟩
  | [], hk, hl, hrun2 => exact ⟨.tup [], β', Z', fp', by simpa [SV.den] using hrun2, hs', hc', hl, hk⟩
  | x :: y :: r, hk, hl, hrun2 =>
    refine ⟨.tup (x :: y :: r), β', Z', fp', ?_, hs', hc', hl, hk⟩
    rw [dif_neg (by simp)] at hrun2
    exact hrun2

theorem sat_enter {β : Env} {Z : Nat → Prop} {fp : Nat → Nat → Prop} {hp : List (Nat × SO)} {nx nt : Nat} {w : World} (avs : List SV) (hs : HSat β Z fp ⟨[], hp, nx⟩ w) (hlt : ∀ v ∈ avs, SV.lt nx v) (hn : avs.length ≤ nt) :
    Sat ⟨w, Z, β, nx, nt, []⟩ ⟨enumL 0 avs, hp, nx⟩ { tmps := (avs.map (SV.den β)).toArray ++ Array.replicate (nt - (avs.map (SV.den β)).toArray.size) undef, defers := [] } w := by
  refine ⟨β, Z, fp, ⟨hs.zlt, hs.flt, hs.sep, hs.obj, hs.lto⟩, ⟨?_, ?_, ?_, rfl⟩, ⟨fun _ h => h, Ext.refl _ _, fun _ _ => rfl, Nat.le_refl _⟩⟩
  · intro t v ht
    obtain ⟨_, h2⟩ := look_enumL avs 0 t v ht
    rw [Nat.sub_zero] at h2
    have hlt' : t < avs.length := (List.getElem?_eq_some_iff.1 h2).1
    rw [Array.getElem?_append_left (by simpa using hlt')]
    simp [h2]
  · intro t v ht
    obtain ⟨_, h2⟩ := look_enumL avs 0 t v ht
    exact hlt v (List.mem_of_getElem? h2)
  · show _ = nt
    simp; omega

/-- A call, by its text; what is asked of the addresses may be used. -/
theorem entryG {P : Program} {ty : List (Nat × STy)} (hty : TyOk P ty) {f : FuncId} {fn : Func} {c : Code} {R : Ending → World → Prop} (avs : List SV) (hp : List (Nat × SO)) (nx n : Nat) (live : List Nat) (post : SV → S → Prop) (E : Env → Prop)
    {β : Env} {Z : Nat → Prop} {fp : Nat → Nat → Prop} {w : World} (hf : P.funcs[f]? = some fn) (hb : fn.body = some c) (hs : HSat β Z fp ⟨[], hp, nx⟩ w) (hlt : ∀ v ∈ avs, SV.lt nx v) (hn : avs.length ≤ fn.ntmps)
    (hE : ∀ β' : Env, (∀ id, id < nx → β' id = β id) → E β')
    (hex : exec P ty fn.ntmps E nx n live c (retK ty fn.results.toList post) (retK ty fn.results.toList post) (fun _ _ => False) ⟨enumL 0 avs, hp, nx⟩)
    (hR : ∀ v w' β' Z' fp' s', Nxt β Z ⟨[], hp, nx⟩ w v w' β' Z' fp' ⟨[], s'.hp, s'.nx⟩ → post v s' → R (.returned (v.den β')) w') :
    Calls P f (avs.map (SV.den β)).toArray w R := by
  refine calls_of_wp hf hb ?_
  have hmain := exec_sound hty (C := ⟨w, Z, β, nx, fn.ntmps, []⟩) (E := E) hE c _ _ _ _ _ _ hex (sat_enter avs hs hlt hn)
  have hres : ∀ s a w', retK ty fn.results.toList post s → Sat ⟨w, Z, β, nx, fn.ntmps, []⟩ s a w' → a.defers = [] ∧ ∃ v, (results fn a.tmps).run P w' = .ok v w' ∧ R (.returned v) w' := by
    intro s a w' hr hsat'
    obtain ⟨v, β', Z', fp', h1, h2, h3, h4, h5⟩ := res_end hty hr hsat'
    obtain ⟨_, _, _, _, hf', _⟩ := hsat'
    exact ⟨hf'.defers, _, h1, hR v w' β' Z' fp' s ⟨h3.env, h3.ext, h3.zz, rfl, h3.nx, ⟨h2.zlt, h2.flt, h2.sep, h2.obj, h2.lto⟩, h4⟩ h5⟩
  refine wp_mono hmain ?_
  intro e a w' hq
  cases e with
  | normal => obtain ⟨s, hr, hs'⟩ := hq; exact hres s a w' hr hs'
  | ret => obtain ⟨s, hr, hs'⟩ := hq; exact hres s a w' hr hs'
  | exit i => obtain ⟨s, hr, _⟩ := hq; exact hr.elim
  | goto l => exact hq.elim
  | panic ch => exact hq.elim
  | outgrown => exact hq.elim

theorem ptrs_mem {v : SV} : ∀ {l : List (Nat × Nat)}, v ∈ ptrs l → ∃ c ∈ l, v = .c (.ptr c.1 c.2)
  | [], h => by cases h
  | c :: l, h => by
    simp only [ptrs, List.mem_cons] at h
    rcases h with rfl | h
    · exact ⟨c, by simp, rfl⟩
    · obtain ⟨c', h1, h2⟩ := ptrs_mem h
      exact ⟨c', by simp [h1], h2⟩
theorem ptrs_len : ∀ l : List (Nat × Nat), (ptrs l).length = l.length
  | [] => rfl
  | c :: l => by simp [ptrs, ptrs_len l]

/-- The statement, from its state on. -/
theorem range_at {P : Program} {ty : List (Nat × STy)} (hty : TyOk P ty) {C : Ctx} (hdf : C.df = []) {s : S} {g p q i1 i2 b i3 : Nat} {ops1 ops2 ops3 : Array Oper} {fi : Nat} {fni : Func} {ci : Code} {caps : List (Nat × Nat)}
    (hfi : P.funcs[fi]? = some fni) (hci : fni.body = some ci) (hcf : ∀ args w, (callFunc fi args).run P w = .ok (.enter fi args) w) (hg : look s.fr g = some (.c (.fn fi caps))) (hnt : 1 + caps.length ≤ fni.ntmps) (hcl : ∀ c ∈ caps, c.1 < s.nx)
    (ni : Nat) (livei : List Nat) {krest : Nat → S → Prop}
    (h : ∀ (l D : Nat) (r : Loop) (β1 : Env), RecOk C.N s.fr β1 s.nx p q i1 ops1 i2 ops2 b i3 ops3 r → exec P ty fni.ntmps (EIt (s.nx + 2) β1) (s.nx + 2) ni livei ci
      (retK ty fni.results.toList fun _ s2 => Ob (look s2.hp (s.nx + 1) = some (loopO l r)) (updK s2.hp (s.nx + 1) junkO fun hp => krest D ⟨s.fr, hp, s2.nx⟩))
      (retK ty fni.results.toList fun _ s2 => Ob (look s2.hp (s.nx + 1) = some (loopO l r)) (updK s2.hp (s.nx + 1) junkO fun hp => krest D ⟨s.fr, hp, s2.nx⟩)) (fun _ _ => False)
      ⟨enumL 0 (appN [.c (.v (.func (.yield l) #[] #[]))] (ptrs caps)), (s.nx + 1, loopO l r) :: (s.nx, markO D) :: s.hp, s.nx + 2⟩)
    {a : Act} {w : World} (hs : Sat C s a w) {Q : Exit → Act → World → Prop}
    (hQ : ∀ D s' a' w', krest D s' → Sat { C with df := [⟨.collected D, #[]⟩] } s' a' w' → Q .normal a' w') :
    (Code.rangeFunc (.tmp g) #[p, q] (.seq (.region i1 ops1 false) (.region i2 ops2 false)) (.block b (.region i3 ops3 false))).wpIn Fence.wide 0 P Q a w := by
  obtain ⟨β, Z, fp, hh, hf, hc⟩ := hs
  refine wpIn_rangeFunc (fun fnid _ => ?_)
  let D := w.heap.size
  let w0 := w.alloc (.deferred (some []))
  let r : Loop := { state := .ready, pending := none, fn := fnid, tmps := a.tmps, params := #[p, q], assign := .seq (.region i1 ops1 false) (.region i2 ops2 false), body := .block b (.region i3 ops3 false), defers := D }
  let w1 := w0.alloc (.loop r)
  let β1 := (β.add s.nx (some ⟨D, 0, none⟩)).add (s.nx + 1) (some ⟨D + 1, 0, none⟩)
  have hβ : ∀ id, id < s.nx → β1 id = β id := fun id hid => (Env.add_lt id (by omega)).trans (Env.add_lt id hid)
  have hsz0 : w0.heap.size = D + 1 := by simp [w0, D]
  have hh0 : HSat (β.add s.nx (some ⟨D, 0, none⟩)) Z (fun i => if i = s.nx then (fun b => b = D) else fp i) ⟨[], (s.nx, markO D) :: s.hp, s.nx + 1⟩ w0 := by
    have := hh.add (o := markO D) (w' := w0) (x := some ⟨D, 0, none⟩) (q := fun b => b = D) (fun b hb => heap_alloc_lt hb) (by omega) (by rintro b rfl; constructor <;> omega) (markO_ok rfl rfl (heap_alloc_at _)) trivial
    exact ⟨this.zlt, this.flt, this.sep, this.obj, this.lto⟩
  have hh1 : HSat β1 Z (fun i => if i = s.nx + 1 then (fun b => b = D + 1) else if i = s.nx then (fun b => b = D) else fp i) ⟨[], (s.nx + 1, loopO (D + 1) r) :: (s.nx, markO D) :: s.hp, s.nx + 2⟩ w1 := by
    have := hh0.add (o := loopO (D + 1) r) (w' := w1) (x := some ⟨D + 1, 0, none⟩) (q := fun b => b = D + 1) (fun b hb => heap_alloc_lt hb) (by simp [w1]) (by rintro b rfl; simp [w1, hsz0]) (loopO_ok rfl rfl (by
      have := heap_alloc_at (w := w0) (.loop r)
      rw [hsz0] at this
      exact this)) trivial
    exact this
  obtain ⟨hev, _⟩ := ev_den hf (x := .tmp g) hg
  have hrec : RecOk C.N s.fr β1 s.nx p q i1 ops1 i2 ops2 b i3 ops3 r := by
    refine ⟨rfl, rfl, rfl, rfl, rfl, hf.size, fun t v ht => ?_⟩
    have hl := hf.lt t v ht
    exact ⟨by rw [SV.den_congr hβ hl]; exact hf.tmp t v ht, hl⟩
  have hcall := h (D + 1) D r β1 hrec
  have hargs : ((appN [SV.c (.v (.func (.yield (D + 1)) #[] #[]))] (ptrs caps)).map (SV.den β1)).toArray = #[Value.func (.yield (D + 1)) #[] #[]] ++ (caps.map fun p => Value.pointer ((β p.1).map (·.add p.2))).toArray := by
    apply Array.ext'
    have : (caps.map fun p => Value.pointer ((β1 p.1).map (·.add p.2))) = caps.map fun p => Value.pointer ((β p.1).map (·.add p.2)) := by
      apply List.map_congr_left
      intro c hcm
      rw [hβ _ (hcl c hcm)]
    simp [appN_eq, ptrs_den, this, SV.den, SA.den, SC.den]
  refine ⟨D + 1, [⟨.collected D, #[]⟩], w1, ⟨.fn (.func fi) (caps.map fun p => Value.pointer ((β p.1).map (·.add p.2))).toArray, #[Value.func (.yield (D + 1)) #[] #[]]⟩, w1, fi, #[Value.func (.yield (D + 1)) #[] #[]] ++ (caps.map fun p => Value.pointer ((β p.1).map (·.add p.2))).toArray, w1, ?_, ?_, fun _ _ => trivial, ?_, (fun h => by cases h), ?_⟩
  · exact run_enterLoop_outer fnid a.tmps _ _ _
  · simp only [resolve, hev, SV.den, SA.den, SC.den, Deferred.ofValue, pure_bind]
    simp [Act.eval]
  · simp only [invoke]
    exact hcf _ _
  · rw [← hargs]
    refine callsIn_wide.2 (entryG hty _ _ (s.nx + 2) ni livei _ (EIt (s.nx + 2) β1) hfi hci hh1 ?_ ?_ (fun _ h => h) hcall ?_)
    · intro v hv
      rw [appN_eq] at hv
      simp only [List.cons_append, List.nil_append, List.mem_cons] at hv
      rcases hv with rfl | hv
      · trivial
      · obtain ⟨c, hcm, rfl⟩ := ptrs_mem hv
        have := hcl c hcm
        show c.1 < s.nx + 2
        omega
    · rw [appN_eq]
      have := ptrs_len caps
      simp [this]; omega
    · rintro v w' β' Z' fp' s2 hN ⟨hlo, hk⟩
      have hs2 := hN.sat
      obtain ⟨hb2, hfl2, hw2⟩ := loop_at (s := ⟨[], s2.hp, s2.nx⟩) hs2 hlo
      refine ⟨none, _, run_endLoop hw2 (by simp [r]), ?_⟩
      rw [updK_iff] at hk
      refine hQ D _ _ _ hk ?_
      have hh3 := hs2.junk (.loop { r with state := .exhausted }) hlo hfl2
      have hnx : s.nx ≤ s2.nx := by have := hN.nx; simp only at this; omega
      have henv : ∀ id, id < s.nx → β' id = β id := fun id hid => (hN.env id (by show id < s.nx + 2; omega)).trans (hβ id hid)
      refine ⟨β', Z', fp', ⟨hh3.zlt, hh3.flt, hh3.sep, hh3.obj, hh3.lto⟩, ⟨?_, ?_, hf.size, ?_⟩, ⟨?_, ?_, ?_, ?_⟩⟩
      · intro t v ht
        have hl := hf.lt t v ht
        rw [SV.den_congr henv hl]
        exact hf.tmp t v ht
      · intro t v ht
        exact SV.lt_mono hnx (hf.lt t v ht)
      · show _ ++ a.defers = _
        rw [hf.defers, hdf]
        rfl
      · exact fun b hb => hN.zz b (hc.zz b hb)
      · have e1 : Ext Z w w0 := Ext.alloc _ hh.zlt
        have e2 : Ext Z w0 w1 := Ext.alloc _ hh0.zlt
        have e3 := Ext.trans (Ext.trans e1 e2 (fun _ h => h)) hN.ext (fun _ h => h)
        have e4 := Ext.trans hc.ext e3 hc.zz
        refine ⟨e4.os, e4.tape, e4.output, by simpa [World.putObj] using e4.size, fun b' hzb => ?_⟩
        rw [putObj_other (fun e => by subst e; exact (hs2.flt _ _ hlo _ hfl2).2 (hN.zz _ (hc.zz _ hzb)))]
        exact e4.block b' hzb
      · exact fun id hid => (henv id (Nat.lt_of_lt_of_le hid hc.nx)).trans (hc.env id hid)
      · exact Nat.le_trans hc.nx hnx

/-- The end behind a range over a function: the mark is taken away. -/
def markK (ty : List (Nat × STy)) (rs : List ResultVar) (n0 mid D : Nat) (post : SV → S → Prop) (s : S) : Prop :=
  Ob (look s.hp mid = some (markO D)) (updK s.hp mid junkO fun hp => retK ty rs (Back n0 post) ⟨s.fr, hp, s.nx⟩)

/-- The call of yield. -/
theorem yieldR {P : Program} {ty : List (Nat × STy)} (hty : TyOk P ty) {N Nr : Nat} {k : S → SV → Prop} {f x y : Operand} {ats : Array TypeId} {dst : Option Nat} {type : TypeId} {pos : String} {after : Array Edge} {guard : Option (Nat × Bool)}
    {id l : Nat} {r : Loop} {n m : Int} {p q i1 i2 b i3 : Nat} {ops1 ops2 ops3 : Array Oper} {fr0 : List (Nat × SV)} {β1 : Env} {n1 n2 : Nat} {s : S} (hrec : RecOk Nr fr0 β1 n1 p q i1 ops1 i2 ops2 b i3 ops3 r)
    (hf : ev s.fr f = some (.c (.v (.func (.yield l) #[] #[])))) (hx : ev s.fr x = some (.i n)) (hy : ev s.fr y = some (.i m)) (hl : look s.hp id = some (loopO l r)) (hn : Nat.ble n1 n2 = true) (hn1 : Nat.ble n1 s.nx = true) (hp : Nat.blt p Nr = true) (hq : Nat.blt q Nr = true)
    (hgo : updK fr0 p (.i n) fun fr1 => updK fr1 q (.i m) fun fr2 => runOps P ty Nr AnyE ops1.toList ops1.toList ⟨fr2, s.hp, s.nx⟩ fun s1 => runOps P ty Nr AnyE ops2.toList ops2.toList s1 fun s2 => Ob (s2.hp = s.hp ∧ s2.nx = s.nx)
      (updK s.hp id (loopO l { r with state := .busy }) fun hpb => runOps P ty Nr AnyE ops3.toList ops3.toList ⟨s2.fr, hpb, s.nx⟩ fun s3 => Ob (look s3.hp id = some (loopO l { r with state := .busy }))
        (updK s3.hp id (loopO l r) fun hpe => k ⟨s.fr, hpe, s3.nx⟩ (.b true)))) :
    YieldX P N (EIt n2 β1) ⟨dst, .call ⟨.value f, #[x, y], ats⟩, type, pos, after, guard⟩ s k := by
  rw [updK_iff, updK_iff] at hgo
  rw [blt_iff, decide_eq_true_eq] at hp hq
  have hn := Nat.le_of_ble_eq_true hn
  exact yieldX hty hf hx hy hl hrec.rd hrec.pd hrec.ps hrec.has hrec.bo (fun β hβ id hid => hβ id (Nat.lt_of_lt_of_le hid hn)) hrec.fr hrec.sz (Nat.le_of_ble_eq_true hn1) hp hq hgo

end Go.Fw

/-
  A range over a function whose head stands in one part with the region before it; an own empty list handed on.
-/
namespace Go.Fw
open Go

theorem cutK {P : Program} {ty : List (Nat × STy)} (hty : TyOk P ty) {C : Ctx} (n : Nat) (live : List Nat) {K kr : S → Prop} {Q : Exit → Act → World → Prop} (hret : ∀ s a w, kr s → Sat C s a w → Q .ret a w) : ∀ (k : Nat) (c : Code) (s : S) (a : Act) (w : World),
    exec P ty C.N AnyE C.n0 n live (takeC k c) K kr (fun _ _ => False) s → Sat C s a w → (∀ s a w, K s → Sat C s a w → (dropC k c).wpIn Fence.wide 0 P Q a w) → c.wpIn Fence.wide 0 P Q a w
  | 0, c, s, a, w, h, hs, hk => hk s a w h hs
  | k + 1, c, s, a, w, h, hs, hk => by
    cases c <;> first
      | exact h.elim
      | skip
    rename_i x y
    refine wpIn_seq (wpIn_mono (wpIn_wide.2 (exec_sound hty (E := AnyE) (fun _ _ => trivial) x _ kr _ s a w h hs)) ?_)
    intro e a w hq
    cases e <;> first
      | (obtain ⟨s', hk', hs'⟩ := hq; exact cutK hty n live hret k y s' a w hk' hs' hk)
      | (obtain ⟨s', hk', hs'⟩ := hq; exact hret s' a w hk' hs')
      | (obtain ⟨s', hk', _⟩ := hq; exact hk'.elim)
      | exact hq.elim

theorem ctR2 {P : Program} {ty : List (Nat × STy)} (hty : TyOk P ty) {f : FuncId} {fn : Func} {c : Code} {avs : List SV} {hp : List (Nat × SO)} {nx : Nat} {post : SV → S → Prop}
    (hf : P.funcs[f]? = some fn) (hb : fn.body = some c) (hlt : ∀ v ∈ avs, SV.lt nx v) (hn : avs.length ≤ fn.ntmps) {fr : List (Nat × SV)} (hfr : fr = enumL 0 avs)
    (n : Nat) (live : List Nat) (k : Nat) {α : Type} (pat : α → S) (inv : α → Prop) {b0 g p q i1 i2 b i3 : Nat} {ops1 ops2 ops3 : Array Oper} {r8 rest : Code}
    (hdrop : dropC k c = .seq (.seq r8 (.block b0 (.rangeFunc (.tmp g) #[p, q] (.seq (.region i1 ops1 false) (.region i2 ops2 false)) (.block b (.region i3 ops3 false))))) rest)
    {fi : Nat} {fni : Func} {ci : Code} {caps : List (Nat × Nat)}
    (hfi : P.funcs[fi]? = some fni) (hci : fni.body = some ci) (hcf : ∀ args w, (callFunc fi args).run P w = .ok (.enter fi args) w) (hg : ∀ x, look (pat x).fr g = some (.c (.fn fi caps))) (hnt : 1 + caps.length ≤ fni.ntmps) (hcl : ∀ x, ∀ c ∈ caps, c.1 < (pat x).nx)
    (ni : Nat) (livei : List Nat)
    (hpre : exec P ty fn.ntmps AnyE nx n live (takeC k c) (fun s1 => exec P ty fn.ntmps AnyE nx n live r8 (fun s' => ∃ x ren, Sub nx ren (pat x) s' ∧ inv x) (retK ty fn.results.toList (Back nx post)) (fun _ _ => False) s1) (retK ty fn.results.toList (Back nx post)) (fun _ _ => False) ⟨fr, hp, nx⟩)
    (hmain : ∀ x, inv x → ∀ (l D : Nat) (r : Loop) (β1 : Env), RecOk fn.ntmps (pat x).fr β1 (pat x).nx p q i1 ops1 i2 ops2 b i3 ops3 r → exec P ty fni.ntmps (EIt ((pat x).nx + 2) β1) ((pat x).nx + 2) ni livei ci
      (retK ty fni.results.toList fun _ s2 => Ob (look s2.hp ((pat x).nx + 1) = some (loopO l r)) (updK s2.hp ((pat x).nx + 1) junkO fun hp => exec P ty fn.ntmps AnyE nx n live rest (markK ty fn.results.toList nx (pat x).nx D post) (markK ty fn.results.toList nx (pat x).nx D post) (fun _ _ => False) ⟨(pat x).fr, hp, s2.nx⟩))
      (retK ty fni.results.toList fun _ s2 => Ob (look s2.hp ((pat x).nx + 1) = some (loopO l r)) (updK s2.hp ((pat x).nx + 1) junkO fun hp => exec P ty fn.ntmps AnyE nx n live rest (markK ty fn.results.toList nx (pat x).nx D post) (markK ty fn.results.toList nx (pat x).nx D post) (fun _ _ => False) ⟨(pat x).fr, hp, s2.nx⟩)) (fun _ _ => False)
      ⟨enumL 0 (appN [.c (.v (.func (.yield l) #[] #[]))] (ptrs caps)), ((pat x).nx + 1, loopO l r) :: ((pat x).nx, markO D) :: (pat x).hp, (pat x).nx + 2⟩) :
    Ct P f avs [] hp nx post := by
  intro β Z fp w hs
  rw [List.append_nil]
  subst hfr
  refine callsIn_wide.1 (callsIn_of_wp_marks (n := 0) hf hb trivial ?_)
  let C : Ctx := ⟨w, Z, β, nx, fn.ntmps, []⟩
  let R : Ending → World → Prop := fun e w' => ∃ v β' Z' fp' s', e = .returned (v.den β') ∧ Nxt β Z ⟨[], hp, nx⟩ w v w' β' Z' fp' ⟨[], s'.hp, s'.nx⟩ ∧ post v s'
  have hsat : Sat C ⟨enumL 0 avs, hp, nx⟩ _ w := sat_enter avs hs hlt hn
  have hback : ∀ s a w', retK ty fn.results.toList (Back nx post) s → Sat C s a w' → ∃ v, (results fn a.tmps).run P w' = .ok v w' ∧ R (.returned v) w' := by
    intro s a w' hr hsat'
    obtain ⟨v, β', Z', fp', h1, h2, h3, h4, ren, hp1, nx1, v1, h5, h6, h7⟩ := res_end hty hr hsat'
    have hN : Nxt β Z ⟨[], hp, nx⟩ w v w' β' Z' fp' ⟨[], s.hp, s.nx⟩ := ⟨h3.env, h3.ext, h3.zz, rfl, h3.nx, ⟨h2.zlt, h2.flt, h2.sep, h2.obj, h2.lto⟩, h4⟩
    obtain ⟨g1, _, g3, g4⟩ := h5.sat (N := (0, [])) (a := { tmps := #[], defers := [] }) hN.sat ⟨fun t v h => (by cases h), fun t v h => (by cases h), rfl, rfl⟩
    obtain ⟨e1, e2⟩ := eqV_spec (β := β') h6 hN.lt
    exact ⟨_, h1, v1, renE ren β', Z', _, ⟨[], hp1, nx1⟩, by rw [e1], ⟨fun id hid => (g3 id hid).trans (hN.env id hid), hN.ext, hN.zz, rfl, g4, g1, e2⟩, h7⟩
  have hret : ∀ s a w', retK ty fn.results.toList (Back nx post) s → Sat C s a w' → bodyPostM Fence.wide 0 P fn R .ret a w' := by
    intro s a w' hr hsat'
    have hd : a.defers = [] := by
      obtain ⟨_, _, _, _, hf', _⟩ := hsat'
      exact hf'.defers
    show LeavesInM Fence.wide 0 P fn a.tmps R a.defers .returning w'
    rw [hd]
    exact hback s a w' hr hsat'
  refine cutK hty (C := C) n live hret k c _ _ _ hpre hsat ?_
  intro s1 a1 w1 h1 hs1
  rw [hdrop]
  refine wpIn_seq (wpIn_seq (wpIn_mono (wpIn_wide.2 (exec_sound hty (C := C) (E := AnyE) (fun _ _ => trivial) r8 _ _ _ s1 a1 w1 h1 hs1)) ?_))
  intro e8 a' w' hq8
  cases e8 with
  | ret => obtain ⟨s', hk', hs'⟩ := hq8; exact hret s' a' w' hk' hs'
  | exit i => obtain ⟨s', hk', _⟩ := hq8; exact hk'.elim
  | goto l => exact hq8.elim
  | panic ch => exact hq8.elim
  | outgrown => exact hq8.elim
  | normal =>
  obtain ⟨s', ⟨x, ren, hsub, hi⟩, hs'⟩ := hq8
  have hsx := hs'.sub hsub
  refine wpIn_block (range_at hty (C := C) rfl hfi hci hcf (hg x) hnt (hcl x) ni livei (hmain x hi) hsx ?_)
  intro D s2 a2 w2 hk2 hs2
  show rest.wpIn Fence.wide 0 P _ a2 w2
  refine wpIn_wide.2 (wp_mono (exec_sound hty (C := { C with df := [⟨.collected D, #[]⟩] }) (E := AnyE) (fun _ _ => trivial) rest _ _ _ s2 a2 w2 hk2 hs2) ?_)
  have hend : ∀ s a w', markK ty fn.results.toList nx (pat x).nx D post s → Sat { C with df := [⟨.collected D, #[]⟩] } s a w' → LeavesInM Fence.wide 0 P fn a.tmps R a.defers .returning w' := by
    rintro s a w' ⟨hm, hr⟩ ⟨β', Z', fp', hs', hf', hc'⟩
    obtain ⟨hb2, hfl2, hw2⟩ := mark_at hs' hm
    rw [updK_iff] at hr
    rw [hf'.defers]
    refine ⟨fun h => (by cases h), .inl ⟨D, _, rfl, run_takeDeferred hw2, ?_⟩⟩
    have hj := hs'.junk (.deferred none) hm hfl2
    refine hback ⟨s.fr, upd s.hp (pat x).nx junkO, s.nx⟩ { tmps := a.tmps, defers := [] } _ hr ⟨β', Z', fp', hj, ⟨hf'.tmp, hf'.lt, hf'.size, rfl⟩, ⟨hc'.zz, ?_, hc'.env, hc'.nx⟩⟩
    refine ⟨hc'.ext.os, hc'.ext.tape, hc'.ext.output, by simpa [World.putObj] using hc'.ext.size, fun b' hzb => ?_⟩
    rw [putObj_other (fun e => by subst e; exact (hs'.flt _ _ hm _ hfl2).2 (hc'.zz _ hzb))]
    exact hc'.ext.block b' hzb
  intro e a3 w3 hq
  cases e with
  | normal => obtain ⟨s, hr, hs'⟩ := hq; exact hend s a3 w3 hr hs'
  | ret => obtain ⟨s, hr, hs'⟩ := hq; exact hend s a3 w3 hr hs'
  | exit i => obtain ⟨s, hr, _⟩ := hq; exact hr.elim
  | goto l => exact hq.elim
  | panic ch => exact hq.elim
  | outgrown => exact hq.elim

end Go.Fw

/-
  One behind the other, again and again: the ways of what is joined.
-/
namespace Go.Fw
open Go

def behindL (F G : TF) : List Arc := F.arcs.map (shA 1) ++ G.arcs.map (shA (1 + F.st)) ++ [silA 0 (1 + F.start) 0] ++ endsL 1 (1 + F.st + G.start) F.fin F.fin.length
def againL (F : TF) : List Arc := F.arcs.map (shA 1) ++ [silA 0 (1 + F.start) 0] ++ endsL 1 0 F.fin F.fin.length

theorem behindL_mem {F G : TF} {a : Arc} : a ∈ behindL F G ↔ (∃ b ∈ F.arcs, a = shA 1 b) ∨ (∃ b ∈ G.arcs, a = shA (1 + F.st) b) ∨ a = silA 0 (1 + F.start) 0 ∨ ∃ n, n < F.fin.length ∧ F.fin.getD n 0 ≠ -1 ∧ a = silA (1 + n) (1 + F.st + G.start) (F.fin.getD n 0) := by
  unfold behindL
  rw [List.mem_append, List.mem_append, List.mem_append, List.mem_map, List.mem_map, List.mem_singleton, endsL_mem]
  constructor
  · rintro (((⟨b, hb, rfl⟩ | ⟨b, hb, rfl⟩) | rfl) | h)
    · exact .inl ⟨b, hb, rfl⟩
    · exact .inr (.inl ⟨b, hb, rfl⟩)
    · exact .inr (.inr (.inl rfl))
    · exact .inr (.inr (.inr h))
  · rintro (⟨b, hb, rfl⟩ | ⟨b, hb, rfl⟩ | rfl | h)
    · exact .inl (.inl (.inl ⟨b, hb, rfl⟩))
    · exact .inl (.inl (.inr ⟨b, hb, rfl⟩))
    · exact .inl (.inr rfl)
    · exact .inr h

theorem againL_mem {F : TF} {a : Arc} : a ∈ againL F ↔ (∃ b ∈ F.arcs, a = shA 1 b) ∨ a = silA 0 (1 + F.start) 0 ∨ ∃ n, n < F.fin.length ∧ F.fin.getD n 0 ≠ -1 ∧ a = silA (1 + n) 0 (F.fin.getD n 0) := by
  unfold againL
  rw [List.mem_append, List.mem_append, List.mem_map, List.mem_singleton, endsL_mem]
  constructor
  · rintro ((⟨b, hb, rfl⟩ | rfl) | h)
    · exact .inl ⟨b, hb, rfl⟩
    · exact .inr (.inl rfl)
    · exact .inr (.inr h)
  · rintro (⟨b, hb, rfl⟩ | rfl | h)
    · exact .inl (.inl ⟨b, hb, rfl⟩)
    · exact .inl (.inr rfl)
    · exact .inr h

theorem behind_f {F G : TF} (hF : FOk F) (hG : FOk G) {s t : Int} {u v : List Int} {c : Int} (h : Way (behindL F G) s u v t c) :
    (∀ x, s = x + (1 + F.st) → 0 ≤ x → ∃ y, t = y + (1 + F.st) ∧ Way G.arcs x u v y c) ∧
    (∀ x, s = x + 1 → 0 ≤ x → x < F.st → (∃ y, t = y + 1 ∧ Way F.arcs x u v y c) ∨ ∃ u1 u2 v1 v2 y c1 c2, u = u1 ++ u2 ∧ v = v1 ++ v2 ∧ Way F.arcs x u1 v1 y c1 ∧ F.fin.getD y.toNat 0 ≠ -1 ∧ (∃ z, t = z + (1 + F.st) ∧ Way G.arcs G.start u2 v2 z c2) ∧ c = c1 + F.fin.getD y.toNat 0 + c2) := by
  have hst := hF.st
  have hfl := hF.finl
  induction h with
  | nil s => exact ⟨fun x hx _ => ⟨x, hx, .nil x⟩, fun x hx _ _ => .inl ⟨x, hx, .nil x⟩⟩
  | @cons a u v t c ha h ih =>
    rcases behindL_mem.1 ha with ⟨b, hb, rfl⟩ | ⟨b, hb, rfl⟩ | rfl | ⟨n, hn, hnf, rfl⟩
    · have hbo := hF.arc b hb
      have := hbo.f1
      have := hbo.t0
      have := hbo.t1
      refine ⟨fun x hx h0 => ?_, fun x hx h0 h1 => ?_⟩
      · unfold shA at hx; simp only at hx; omega
      · have ex : b.f = x := by unfold shA at hx; simp only at hx; omega
        subst ex
        rcases ih.2 b.t rfl (by omega) (by omega) with ⟨y, e, hw⟩ | ⟨u1, u2, v1, v2, y, c1, c2, rfl, rfl, hw, hf, hz, rfl⟩
        · exact .inl ⟨y, e, .cons hb hw⟩
        · refine .inr ⟨lab b.i ++ u1, u2, lab b.o ++ v1, v2, y, b.w + c1, c2, by simp [shA], by simp [shA], .cons hb hw, hf, hz, ?_⟩
          show b.w + _ = _
          omega
    · have hbo := hG.arc b hb
      have := hbo.f0
      have := hbo.t0
      refine ⟨fun x hx h0 => ?_, fun x hx h0 h1 => ?_⟩
      · obtain ⟨y, e, hw⟩ := ih.1 b.t rfl (by omega)
        have ex : b.f = x := by unfold shA at hx; simp only at hx; omega
        subst ex
        exact ⟨y, e, .cons hb hw⟩
      · unfold shA at hx; simp only at hx; omega
    · refine ⟨fun x hx h0 => ?_, fun x hx h0 h1 => ?_⟩
      · unfold silA at hx; simp only at hx; omega
      · unfold silA at hx; simp only at hx; omega
    · refine ⟨fun x hx h0 => ?_, fun x hx h0 h1 => ?_⟩
      · unfold silA at hx; simp only at hx; omega
      · have ex : (n : Int) = x := by unfold silA at hx; simp only at hx; omega
        subst ex
        obtain ⟨z, e, hw⟩ := ih.1 G.start (by show (1 + F.st + G.start) = _; omega) hG.start.1
        refine .inr ⟨[], u, [], v, n, 0, c, by simp [silA, lab], by simp [silA, lab], .nil _, by simpa using hnf, ⟨z, e, hw⟩, ?_⟩
        show F.fin.getD n 0 + c = 0 + F.fin.getD ((n : Int).toNat) 0 + c
        simp

theorem getD_neg {l : List Int} {i : Int} (hg : ∀ i, i < l.length → l.getD i 0 = -1) (h0 : 0 ≤ i) (h1 : i < l.length) : l.getD i.toNat 0 = -1 := hg _ (by omega)

/-- Two words cut in two: the first part by the one, the rest by the other. -/
def Cut2 (P Q : List Int → List Int → Int → Prop) (u v : List Int) (c : Int) : Prop := ∃ u1 u2 v1 v2 c1 c2, u = u1 ++ u2 ∧ v = v1 ++ v2 ∧ P u1 v1 c1 ∧ Q u2 v2 c2 ∧ c = c1 + c2

theorem behind_wt {F G : TF} (hF : FOk F) (hG : FOk G) {l : List Int} (hl : l.length = F.fin.length) (hg : ∀ i, i < l.length → l.getD i 0 = -1) {u v : List Int} {c : Int} : WtL (behindL F G) 0 (-1 :: (l ++ G.fin)) u v c ↔ Cut2 (Wt F) (Wt G) u v c := by
  have hfl := hF.finl
  have hgl := hG.finl
  have hfs := hF.start
  have hgs := hG.start
  have hst := hF.st
  constructor
  · rintro ⟨t, d, hw, hf, rfl⟩
    have key : ∀ s, s = 0 → Way (behindL F G) s u v t d → t = 0 ∨ Way (behindL F G) (1 + F.start) u v t d := by
      intro s hs h
      cases h with
      | nil => exact .inl hs
      | @cons a u v t c ha h =>
        rcases behindL_mem.1 ha with ⟨b, hb, rfl⟩ | ⟨b, hb, rfl⟩ | rfl | ⟨n, hn, hnf, rfl⟩
        · have := (hF.arc b hb).f0
          unfold shA at hs; simp only at hs; omega
        · have := (hG.arc b hb).f0
          unfold shA at hs; simp only at hs; omega
        · right; simpa [silA, lab] using h
        · unfold silA at hs; simp only at hs; omega
    rcases key 0 rfl hw with rfl | h
    · exact absurd rfl hf
    · rcases (behind_f hF hG h).2 F.start (by omega) hfs.1 hfs.2 with ⟨y, rfl, hy⟩ | ⟨u1, u2, v1, v2, y, c1, c2, rfl, rfl, hy, hyf, ⟨z, rfl, hz⟩, rfl⟩
      · have hr := hy.rng hF.arc hfs
        rw [fin_low hr.1 (by omega), getD_neg hg hr.1 (by omega)] at hf
        exact absurd rfl hf
      · have hr := hz.rng hG.arc hgs
        rw [fin_at (by omega) hr.1] at hf ⊢
        exact ⟨u1, u2, v1, v2, _, _, rfl, rfl, ⟨y, c1, hy, hyf, rfl⟩, ⟨z, c2, hz, hf, rfl⟩, by omega⟩
  · rintro ⟨u1, u2, v1, v2, c1, c2, rfl, rfl, ⟨y, d1, hy, hyf, rfl⟩, ⟨z, d2, hz, hzf, rfl⟩, rfl⟩
    have hry := hy.rng hF.arc hfs
    have hrz := hz.rng hG.arc hgs
    have w1 := hy.sh (M := behindL F G) (k := 1) fun a ha => behindL_mem.2 (.inl ⟨a, ha, rfl⟩)
    have w2 := hz.sh (M := behindL F G) (k := 1 + F.st) fun a ha => behindL_mem.2 (.inr (.inl ⟨a, ha, rfl⟩))
    have w3 : Way (behindL F G) (y + 1) u2 v2 (z + (1 + F.st)) (F.fin.getD y.toNat 0 + d2) := by
      refine Way.sil (t := 1 + F.st + G.start) (behindL_mem.2 (.inr (.inr (.inr ⟨y.toNat, by omega, hyf, ?_⟩)))) (by rw [Int.add_comm (1 + F.st)]; exact w2)
      rw [show (1 : Int) + (y.toNat : Int) = y + 1 by omega]
    have w4 := w1.app w3
    have w5 : Way (behindL F G) 0 (u1 ++ u2) (v1 ++ v2) (z + (1 + F.st)) (0 + (d1 + (F.fin.getD y.toNat 0 + d2))) := Way.sil (t := 1 + F.start) (behindL_mem.2 (.inr (.inr (.inl rfl)))) (by rw [Int.add_comm 1]; exact w4)
    refine ⟨z + (1 + F.st), _, w5, ?_⟩
    rw [fin_at (by omega) hrz.1]
    exact ⟨hzf, by omega⟩

/-! ### Again -/
inductive Star (P : List Int → List Int → Int → Prop) : List Int → List Int → Int → Prop
  | nil : Star P [] [] 0
  | cons {u1 v1 u2 v2 : List Int} {c1 c2 : Int} (h1 : P u1 v1 c1) (h2 : Star P u2 v2 c2) : Star P (u1 ++ u2) (v1 ++ v2) (c1 + c2)

theorem again_f {F : TF} (hF : FOk F) {s t : Int} {u v : List Int} {c : Int} (h : Way (againL F) s u v t c) (ht : t = 0) :
    (s = 0 → Star (Wt F) u v c) ∧
    (∀ x, s = x + 1 → 0 ≤ x → x < F.st → ∃ u1 u2 v1 v2 y c1 c2, u = u1 ++ u2 ∧ v = v1 ++ v2 ∧ Way F.arcs x u1 v1 y c1 ∧ F.fin.getD y.toNat 0 ≠ -1 ∧ Star (Wt F) u2 v2 c2 ∧ c = c1 + F.fin.getD y.toNat 0 + c2) := by
  have hst := hF.st
  have hfl := hF.finl
  have hfs := hF.start
  induction h with
  | nil s => exact ⟨fun _ => .nil, fun x hx _ _ => absurd hx (by omega)⟩
  | @cons a u v t c ha h ih =>
    have ih := ih ht
    rcases againL_mem.1 ha with ⟨b, hb, rfl⟩ | rfl | ⟨n, hn, hnf, rfl⟩
    · have hbo := hF.arc b hb
      have := hbo.f0
      have := hbo.t0
      have := hbo.t1
      refine ⟨fun hx => ?_, fun x hx h0 h1 => ?_⟩
      · unfold shA at hx; simp only at hx; omega
      · have ex : b.f = x := by unfold shA at hx; simp only at hx; omega
        subst ex
        obtain ⟨u1, u2, v1, v2, y, c1, c2, rfl, rfl, hw, hf, hz, rfl⟩ := ih.2 b.t rfl (by omega) (by omega)
        refine ⟨lab b.i ++ u1, u2, lab b.o ++ v1, v2, y, b.w + c1, c2, by simp [shA], by simp [shA], .cons hb hw, hf, hz, ?_⟩
        show b.w + _ = _
        omega
    · refine ⟨fun hx => ?_, fun x hx h0 h1 => ?_⟩
      · obtain ⟨u1, u2, v1, v2, y, c1, c2, rfl, rfl, hw, hf, hz, rfl⟩ := ih.2 F.start (by show 1 + F.start = _; omega) hfs.1 hfs.2
        have := Star.cons (P := Wt F) ⟨y, c1, hw, hf, rfl⟩ hz
        simpa [silA, lab] using this
      · unfold silA at hx; simp only at hx; omega
    · refine ⟨fun hx => ?_, fun x hx h0 h1 => ?_⟩
      · unfold silA at hx; simp only at hx; omega
      · have ex : (n : Int) = x := by unfold silA at hx; simp only at hx; omega
        subst ex
        refine ⟨[], u, [], v, n, 0, c, by simp [silA, lab], by simp [silA, lab], .nil _, by simpa using hnf, ih.1 rfl, ?_⟩
        show F.fin.getD n 0 + c = 0 + F.fin.getD ((n : Int).toNat) 0 + c
        simp

theorem again_wt {F : TF} (hF : FOk F) {l : List Int} (hl : l.length = F.fin.length) (hg : ∀ i, i < l.length → l.getD i 0 = -1) {u v : List Int} {c : Int} : WtL (againL F) 0 (0 :: l) u v c ↔ Star (Wt F) u v c := by
  have hfl := hF.finl
  have hfs := hF.start
  have hst := hF.st
  constructor
  · rintro ⟨t, d, hw, hf, rfl⟩
    have hr : 0 ≤ t ∧ t < 1 + F.st := by
      refine hw.rng (st := 1 + F.st) (fun a ha => ?_) (by omega)
      rcases againL_mem.1 ha with ⟨b, hb, rfl⟩ | rfl | ⟨n, hn, hnf, rfl⟩
      · have h := hF.arc b hb
        have := h.f0; have := h.f1; have := h.t0; have := h.t1
        exact ⟨by show 0 ≤ b.f + 1; omega, by show b.f + 1 < _; omega, by show 0 ≤ b.t + 1; omega, by show b.t + 1 < _; omega, h.i0, h.o0, h.w0, h.w1⟩
      · exact ⟨by show (0 : Int) ≤ 0; omega, by show (0 : Int) < _; omega, by show 0 ≤ 1 + F.start; omega, by show 1 + F.start < _; omega, by show (0 : Int) ≤ 0 ∧ (0 : Int) ≤ 9; omega, by show (0 : Int) ≤ 0 ∧ (0 : Int) ≤ 9; omega, by show (0 : Int) ≤ 0; omega, by show (0 : Int) ≤ 1000000000; omega⟩
      · have h := hF.fin _ (getD_mem F.fin n 0 hn)
        exact ⟨by show 0 ≤ 1 + (n : Int); omega, by show 1 + (n : Int) < _; omega, by show (0 : Int) ≤ 0; omega, by show (0 : Int) < _; omega, by show (0 : Int) ≤ 0 ∧ (0 : Int) ≤ 9; omega, by show (0 : Int) ≤ 0 ∧ (0 : Int) ≤ 9; omega, by show 0 ≤ F.fin.getD n 0; omega, by show F.fin.getD n 0 ≤ _; omega⟩
    have ht : t = 0 := by
      by_cases e : t = 0
      · exact e
      · have e2 : t.toNat = (t - 1).toNat + 1 := by omega
        rw [e2, List.getD_cons_succ, getD_neg hg (by omega) (by omega)] at hf
        exact absurd rfl hf
    subst ht
    have := (again_f hF hw rfl).1 rfl
    simpa using this
  · intro h
    suffices H : Way (againL F) 0 u v 0 c by exact ⟨0, c, H, by simp, by simp⟩
    induction h with
    | nil => exact .nil 0
    | @cons u1 v1 u2 v2 c1 c2 h1 h2 ih =>
      obtain ⟨y, d1, hy, hyf, rfl⟩ := h1
      have hry := hy.rng hF.arc hfs
      have w1 := hy.sh (M := againL F) (k := 1) fun a ha => againL_mem.2 (.inl ⟨a, ha, rfl⟩)
      have w3 : Way (againL F) (y + 1) u2 v2 0 (F.fin.getD y.toNat 0 + c2) := by
        refine Way.sil (t := 0) (againL_mem.2 (.inr (.inr ⟨y.toNat, by omega, hyf, ?_⟩))) ih
        rw [show (1 : Int) + (y.toNat : Int) = y + 1 by omega]
      have w5 : Way (againL F) 0 (u1 ++ u2) (v1 ++ v2) 0 (0 + (d1 + (F.fin.getD y.toNat 0 + c2))) := Way.sil (t := 1 + F.start) (againL_mem.2 (.inr (.inl rfl))) (by rw [Int.add_comm 1]; exact w1.app w3)
      rw [show d1 + F.fin.getD y.toNat 0 + c2 = 0 + (d1 + (F.fin.getD y.toNat 0 + c2)) by omega]
      exact w5

end Go.Fw

namespace Go.Fw
open Go Go.Proofs

theorem ends_c (F : TF) : Ct Try.prog 85 [fV F] [] (hpF F) 2 (fun v s => v = .c (.fn 112 [(2, 0)]) ∧ s = ⟨[], [(2, .box 25 (onF F))], 3⟩) := by
  refine ctW Try.tyOk 3 [] Try.func85 rfl (by simp [SV.lt, SA.lt, SC.lt, arcV, fV]) (by simp) (fr := [(0, fV F)]) rfl ?_
  repeat' (first | exact rfl | ((conv => whnf); first | refine condP_dec (fun h => absurd h (by omega)) (fun h => ?_) | refine condP_dec (fun h => ?_) (fun h => absurd h (by omega)) | refine condP_dec (fun h => ?_) (fun h => ?_) | refine condP_ndec (fun h => absurd h (by omega)) (fun h => ?_) | refine condP_ndec (fun h => ?_) (fun h => absurd h (by omega)) | refine condP_ndec (fun h => ?_) (fun h => ?_) | refine condP_beq (fun h => absurd h (by omega)) (fun h => ?_) | refine condP_beq (fun h => ?_) (fun h => absurd h (by omega)) | refine condP_beq (fun h => ?_) (fun h => ?_) | refine condP_bne (fun h => absurd h (by omega)) (fun h => ?_) | refine condP_bne (fun h => ?_) (fun h => absurd h (by omega)) | refine condP_bne (fun h => ?_) (fun h => ?_) | refine condP_mk (fun h => ?_) (fun h => ?_) | refine Ob.mk (by (first | omega | (simp only [InI, nmin, List.length_append, List.length_replicate, List.length_cons, List.length_nil, List.length_map, List.length_set, List.length_take, List.length_drop, List.length_reverse, List.length_range, Nat.zero_add, Nat.add_zero, Int.toNat_natCast, EK.sz]; omega) | (simp only [InI, nmin, List.length_append, List.length_replicate, List.length_cons, List.length_nil, List.length_map, List.length_set, List.length_take, List.length_drop, List.length_reverse, List.length_range, Nat.zero_add, Nat.add_zero, Int.toNat_natCast, EK.sz] at *; omega))) ?_ | refine Ob.mk ?_ ?_ | refine Both.mk ?_ ?_ | refine draw_of Try.mixed Try.tyOk 60 (by kernel_rfl) ?_))
  (conv => whnf)
  refine ⟨[], [(2, .box 25 (onF F))], 3, .c (.fn 112 [(2, 0)]), ⟨by rfl, trivial, by simp [eqFr, eqHp, eqV, eqA, eqC, eqO, eqCs, eqAs, look_cons, look, rn, EK.cast, EK.sz, eqCaps]⟩, by simp [eqV, eqA, eqC, eqCaps, rn, look], rfl, rfl⟩

/-- Raw arcs of Behind before the silent arcs of the ends. -/
def behind0 (F G : TF) : List Arc := F.arcs.map (shA 1) ++ G.arcs.map (shA (1 + F.st)) ++ [silA 0 (1 + F.start) 0]
def behindF (F G : TF) : List Int := -1 :: (F.fin.map goneF ++ G.fin)

set_option maxHeartbeats 8000000 in
set_option maxRecDepth 20000 in
theorem behind_ok (F G : TF) (hF : F.fin.length ≤ 9223372036854775807) (hG : G.fin.length ≤ 9223372036854775807) (h : ready2E F G = 0) : Ct Try.prog 39 [fV F, gV G] [] (hpG F G) 4 (JoinPost (1 + F.st + G.st) (behindF F G) (behindL F G) 4) := by
  have hr := readyE_ok h
  have hFG := allE_ok hr.1
  have oF := fstE_ok hFG.1
  have oG := fstE_ok hFG.2
  have f1 := oF.st
  have f2 := oF.finl
  have f3 := oF.start
  have f4 := oF.arcl
  have g1 := oG.st
  have g2 := oG.finl
  have g3 := oG.start
  have g4 := oG.arcl
  have hBl : (behind0 F G).length ≤ 10000 := by simp [behind0]; omega
  refine ctR2 Try.tyOk Try.func39 rfl (by simp [SV.lt, SA.lt, SC.lt, fV, gV]) (by simp) (fr := [(0, fV F), (1, gV G)]) rfl 12 [34] 6
    (fun x : Nat × Nat => ⟨[(3, .c (.ptr 5 0)), (4, .c (.ptr 6 0)), (7, .c (.ptr 10 0)), (8, .c (.ptr 11 0)), (9, .c (.ptr 12 0)), (34, .c (.fn 112 [(4, 0)]))],
      [(0, .arr false 3 .int F.fin 0), (1, .arr false 47 .arc F.arcs 0), (2, .arr false 3 .int G.fin 0), (3, .arr false 47 .arc G.arcs 0), (4, .box 25 (onF F)), (5, .box 25 [.i G.st, .i G.start, .sl 2 1 0 G.fin.length G.capF, .sl 3 5 0 G.arcs.length G.capA]), (6, .box 25 [.i 0, .i 0, .v (.slice none 0 0), .v (.slice none 0 0)]),
        (7, .box 130 (jCells (1 + F.st + G.st) 8 9 (behindF F G) (behind0 F G) x.1 x.2)), (8, .arr true 3 .int (behindF F G) x.1), (9, .arr true 47 .arc (behind0 F G) x.2), (10, .box 95 [.ptr 7 0]), (11, .box 3 [.i 1]), (12, .box 3 [.i (1 + F.st)])], 13⟩)
    (fun _ => True) rfl Try.func112 rfl Try.call112 (fun _ => rfl) (by decide) (by simp) 5 [6, 7, 8] ?_ ?_
  · repeat' (first | exact rfl | ((conv => whnf); first | refine condP_dec (fun h => absurd h (by omega)) (fun h => ?_) | refine condP_dec (fun h => ?_) (fun h => absurd h (by omega)) | refine condP_dec (fun h => ?_) (fun h => ?_) | refine condP_ndec (fun h => absurd h (by omega)) (fun h => ?_) | refine condP_ndec (fun h => ?_) (fun h => absurd h (by omega)) | refine condP_ndec (fun h => ?_) (fun h => ?_) | refine condP_beq (fun h => absurd h (by omega)) (fun h => ?_) | refine condP_beq (fun h => ?_) (fun h => absurd h (by omega)) | refine condP_beq (fun h => ?_) (fun h => ?_) | refine condP_bne (fun h => absurd h (by omega)) (fun h => ?_) | refine condP_bne (fun h => ?_) (fun h => absurd h (by omega)) | refine condP_bne (fun h => ?_) (fun h => ?_) | refine condP_mk (fun h => ?_) (fun h => ?_) | refine Ob.mk (by (first | omega | (simp only [InI, nmin, List.length_append, List.length_replicate, List.length_cons, List.length_nil, List.length_map, List.length_set, List.length_take, List.length_drop, List.length_reverse, List.length_range, Nat.zero_add, Nat.add_zero, Int.toNat_natCast, EK.sz]; omega) | (simp only [InI, nmin, List.length_append, List.length_replicate, List.length_cons, List.length_nil, List.length_map, List.length_set, List.length_take, List.length_drop, List.length_reverse, List.length_range, Nat.zero_add, Nat.add_zero, Int.toNat_natCast, EK.sz] at *; omega))) ?_ | refine Ob.mk ?_ ?_ | refine Both.mk ?_ ?_ | refine draw_of Try.mixed Try.tyOk 60 (by kernel_rfl) ?_))
    (conv => whnf)
    refine callF (ready2_c F G hF hG) [0, 1, 2, 3, 7] Try.call78 rfl (by simp [eqLs, eqL, eqO, eqC, eqCs, rn, renOf, look_cons, look, EK.cast, gV, two, appN]) (by simp [appN, ptrs, eqVL, eqV, eqA, eqC, eqCs, eqAs, eqCaps, EK.sz, rn, renOf, look_cons, look, arcV, fV, gV, two, appN]) (by simp [appN, ptrs, SV.lt, SA.lt, SC.lt, arcV, fV, lenN]) ?_
    rintro _ _ ⟨rfl, rfl⟩
    rw [show readyE (allE F G) (F.st + G.st) ((F.arcs.length : Int) + (G.arcs.length : Int)) = 0 from h]
    repeat' (first | exact rfl | ((conv => whnf); first | refine condP_dec (fun h => absurd h (by omega)) (fun h => ?_) | refine condP_dec (fun h => ?_) (fun h => absurd h (by omega)) | refine condP_dec (fun h => ?_) (fun h => ?_) | refine condP_ndec (fun h => absurd h (by omega)) (fun h => ?_) | refine condP_ndec (fun h => ?_) (fun h => absurd h (by omega)) | refine condP_ndec (fun h => ?_) (fun h => ?_) | refine condP_beq (fun h => absurd h (by omega)) (fun h => ?_) | refine condP_beq (fun h => ?_) (fun h => absurd h (by omega)) | refine condP_beq (fun h => ?_) (fun h => ?_) | refine condP_bne (fun h => absurd h (by omega)) (fun h => ?_) | refine condP_bne (fun h => ?_) (fun h => absurd h (by omega)) | refine condP_bne (fun h => ?_) (fun h => ?_) | refine condP_mk (fun h => ?_) (fun h => ?_) | refine Ob.mk (by (first | omega | (simp only [InI, nmin, List.length_append, List.length_replicate, List.length_cons, List.length_nil, List.length_map, List.length_set, List.length_take, List.length_drop, List.length_reverse, List.length_range, Nat.zero_add, Nat.add_zero, Int.toNat_natCast, EK.sz]; omega) | (simp only [InI, nmin, List.length_append, List.length_replicate, List.length_cons, List.length_nil, List.length_map, List.length_set, List.length_take, List.length_drop, List.length_reverse, List.length_range, Nat.zero_add, Nat.add_zero, Int.toNat_natCast, EK.sz] at *; omega))) ?_ | refine Ob.mk ?_ ?_ | refine Both.mk ?_ ?_ | refine draw_of Try.mixed Try.tyOk 60 (by kernel_rfl) ?_ | intro _))
    (conv => whnf)
    refine callF (begin_c (-1)) [] Try.call79 rfl (by simp [eqLs, eqL, eqO, eqC, eqCs, rn, renOf, look_cons, look, EK.cast]) (by simp [appN, ptrs, eqVL, eqV, eqA, eqC, eqCs, eqAs, eqCaps, EK.sz, rn, renOf, look_cons, look, arcV, fV]) (by simp [appN, ptrs, SV.lt, SA.lt, SC.lt, arcV, fV, lenN]) ?_
    rintro _ _ ⟨rfl, rfl⟩
    repeat' (first | exact rfl | ((conv => whnf); first | refine condP_dec (fun h => absurd h (by omega)) (fun h => ?_) | refine condP_dec (fun h => ?_) (fun h => absurd h (by omega)) | refine condP_dec (fun h => ?_) (fun h => ?_) | refine condP_ndec (fun h => absurd h (by omega)) (fun h => ?_) | refine condP_ndec (fun h => ?_) (fun h => absurd h (by omega)) | refine condP_ndec (fun h => ?_) (fun h => ?_) | refine condP_beq (fun h => absurd h (by omega)) (fun h => ?_) | refine condP_beq (fun h => ?_) (fun h => absurd h (by omega)) | refine condP_beq (fun h => ?_) (fun h => ?_) | refine condP_bne (fun h => absurd h (by omega)) (fun h => ?_) | refine condP_bne (fun h => ?_) (fun h => absurd h (by omega)) | refine condP_bne (fun h => ?_) (fun h => ?_) | refine condP_mk (fun h => ?_) (fun h => ?_) | refine Ob.mk (by (first | omega | (simp only [InI, nmin, List.length_append, List.length_replicate, List.length_cons, List.length_nil, List.length_map, List.length_set, List.length_take, List.length_drop, List.length_reverse, List.length_range, Nat.zero_add, Nat.add_zero, Int.toNat_natCast, EK.sz]; omega) | (simp only [InI, nmin, List.length_append, List.length_replicate, List.length_cons, List.length_nil, List.length_map, List.length_set, List.length_take, List.length_drop, List.length_reverse, List.length_range, Nat.zero_add, Nat.add_zero, Int.toNat_natCast, EK.sz] at *; omega))) ?_ | refine Ob.mk ?_ ?_ | refine Both.mk ?_ ?_ | refine draw_of Try.mixed Try.tyOk 60 (by kernel_rfl) ?_ | intro _))
    (conv => whnf)
    refine callF (take84_c F oF 1 [-1] [] 0 0 (by omega) (by simp) (by simp)) [0, 1, 8, 9, 10] Try.call80 rfl (by simp [eqLs, eqL, eqO, eqC, eqCs, rn, renOf, look_cons, look, EK.cast]) (by simp [appN, ptrs, eqVL, eqV, eqA, eqC, eqCs, eqAs, eqCaps, EK.sz, rn, renOf, look_cons, look, arcV, fV]) (by simp [appN, ptrs, SV.lt, SA.lt, SC.lt, arcV, fV, lenN]) ?_
    rintro _ _ ⟨p, q, rfl, rfl⟩
    have z1 : ([-1] ++ F.fin.map goneF).length ≤ 1000000 := by simp; omega
    have z2 : (([] : List Arc) ++ F.arcs.map (shA 1)).length ≤ 1000000 := by simp; omega
    repeat' (first | exact rfl | ((conv => whnf); first | refine condP_dec (fun h => absurd h (by omega)) (fun h => ?_) | refine condP_dec (fun h => ?_) (fun h => absurd h (by omega)) | refine condP_dec (fun h => ?_) (fun h => ?_) | refine condP_ndec (fun h => absurd h (by omega)) (fun h => ?_) | refine condP_ndec (fun h => ?_) (fun h => absurd h (by omega)) | refine condP_ndec (fun h => ?_) (fun h => ?_) | refine condP_beq (fun h => absurd h (by omega)) (fun h => ?_) | refine condP_beq (fun h => ?_) (fun h => absurd h (by omega)) | refine condP_beq (fun h => ?_) (fun h => ?_) | refine condP_bne (fun h => absurd h (by omega)) (fun h => ?_) | refine condP_bne (fun h => ?_) (fun h => absurd h (by omega)) | refine condP_bne (fun h => ?_) (fun h => ?_) | refine condP_mk (fun h => ?_) (fun h => ?_) | refine Ob.mk (by (first | omega | (simp only [InI, nmin, List.length_append, List.length_replicate, List.length_cons, List.length_nil, List.length_map, List.length_set, List.length_take, List.length_drop, List.length_reverse, List.length_range, Nat.zero_add, Nat.add_zero, Int.toNat_natCast, EK.sz]; omega) | (simp only [InI, nmin, List.length_append, List.length_replicate, List.length_cons, List.length_nil, List.length_map, List.length_set, List.length_take, List.length_drop, List.length_reverse, List.length_range, Nat.zero_add, Nat.add_zero, Int.toNat_natCast, EK.sz] at *; omega))) ?_ | refine Ob.mk ?_ ?_ | refine Both.mk ?_ ?_ | refine draw_of Try.mixed Try.tyOk 60 (by kernel_rfl) ?_ | intro _))
    (conv => whnf)
    refine callF (take81_c G oG (1 + F.st) ([-1] ++ F.fin.map goneF) ([] ++ F.arcs.map (shA 1)) p q (by omega) z1 z2) [2, 3, 8, 12, 13] Try.call80 rfl (by simp [eqLs, eqL, eqO, eqC, eqCs, rn, renOf, look_cons, look, EK.cast, gV]) (by simp [appN, ptrs, eqVL, eqV, eqA, eqC, eqCs, eqAs, eqCaps, EK.sz, rn, renOf, look_cons, look, arcV, fV, gV]) (by simp [appN, ptrs, SV.lt, SA.lt, SC.lt, arcV, fV, lenN]) ?_
    rintro _ _ ⟨p2, q2, rfl, rfl⟩
    rw [map_stay]
    have z3 : (([] : List Arc) ++ F.arcs.map (shA 1) ++ G.arcs.map (shA (1 + F.st))).length ≤ 1000000 := by simp; omega
    repeat' (first | exact rfl | ((conv => whnf); first | refine condP_dec (fun h => absurd h (by omega)) (fun h => ?_) | refine condP_dec (fun h => ?_) (fun h => absurd h (by omega)) | refine condP_dec (fun h => ?_) (fun h => ?_) | refine condP_ndec (fun h => absurd h (by omega)) (fun h => ?_) | refine condP_ndec (fun h => ?_) (fun h => absurd h (by omega)) | refine condP_ndec (fun h => ?_) (fun h => ?_) | refine condP_beq (fun h => absurd h (by omega)) (fun h => ?_) | refine condP_beq (fun h => ?_) (fun h => absurd h (by omega)) | refine condP_beq (fun h => ?_) (fun h => ?_) | refine condP_bne (fun h => absurd h (by omega)) (fun h => ?_) | refine condP_bne (fun h => ?_) (fun h => absurd h (by omega)) | refine condP_bne (fun h => ?_) (fun h => ?_) | refine condP_mk (fun h => ?_) (fun h => ?_) | refine Ob.mk (by (first | omega | (simp only [InI, nmin, List.length_append, List.length_replicate, List.length_cons, List.length_nil, List.length_map, List.length_set, List.length_take, List.length_drop, List.length_reverse, List.length_range, Nat.zero_add, Nat.add_zero, Int.toNat_natCast, EK.sz]; omega) | (simp only [InI, nmin, List.length_append, List.length_replicate, List.length_cons, List.length_nil, List.length_map, List.length_set, List.length_take, List.length_drop, List.length_reverse, List.length_range, Nat.zero_add, Nat.add_zero, Int.toNat_natCast, EK.sz] at *; omega))) ?_ | refine Ob.mk ?_ ?_ | refine Both.mk ?_ ?_ | refine draw_of Try.mixed Try.tyOk 60 (by kernel_rfl) ?_ | intro _))
    (conv => whnf)
    refine callF (silent_c (1 + F.st + G.st) ([-1] ++ F.fin.map goneF ++ G.fin) ([] ++ F.arcs.map (shA 1) ++ G.arcs.map (shA (1 + F.st))) p2 q2 0 (1 + F.start) 0 z3) [8, 15, 16] Try.call82 rfl (by simp [eqLs, eqL, eqO, eqC, eqCs, rn, renOf, look_cons, look, EK.cast]) (by simp [appN, ptrs, eqVL, eqV, eqA, eqC, eqCs, eqAs, eqCaps, EK.sz, rn, renOf, look_cons, look, arcV, fV]) (by simp [appN, ptrs, SV.lt, SA.lt, SC.lt, arcV, fV, lenN]) ?_
    rintro _ _ ⟨q3, rfl, rfl⟩
    repeat' (first | exact rfl | ((conv => whnf); first | refine condP_dec (fun h => absurd h (by omega)) (fun h => ?_) | refine condP_dec (fun h => ?_) (fun h => absurd h (by omega)) | refine condP_dec (fun h => ?_) (fun h => ?_) | refine condP_ndec (fun h => absurd h (by omega)) (fun h => ?_) | refine condP_ndec (fun h => ?_) (fun h => absurd h (by omega)) | refine condP_ndec (fun h => ?_) (fun h => ?_) | refine condP_beq (fun h => absurd h (by omega)) (fun h => ?_) | refine condP_beq (fun h => ?_) (fun h => absurd h (by omega)) | refine condP_beq (fun h => ?_) (fun h => ?_) | refine condP_bne (fun h => absurd h (by omega)) (fun h => ?_) | refine condP_bne (fun h => ?_) (fun h => absurd h (by omega)) | refine condP_bne (fun h => ?_) (fun h => ?_) | refine condP_mk (fun h => ?_) (fun h => ?_) | refine Ob.mk (by (first | omega | (simp only [InI, nmin, List.length_append, List.length_replicate, List.length_cons, List.length_nil, List.length_map, List.length_set, List.length_take, List.length_drop, List.length_reverse, List.length_range, Nat.zero_add, Nat.add_zero, Int.toNat_natCast, EK.sz]; omega) | (simp only [InI, nmin, List.length_append, List.length_replicate, List.length_cons, List.length_nil, List.length_map, List.length_set, List.length_take, List.length_drop, List.length_reverse, List.length_range, Nat.zero_add, Nat.add_zero, Int.toNat_natCast, EK.sz] at *; omega))) ?_ | refine Ob.mk ?_ ?_ | refine Both.mk ?_ ?_ | refine draw_of Try.mixed Try.tyOk 60 (by kernel_rfl) ?_ | intro _))
    (conv => whnf)
    refine callF (ends_c F) [0, 1] Try.call85 rfl (by simp [eqLs, eqL, eqO, eqC, eqCs, rn, renOf, look_cons, look, EK.cast]) (by simp [appN, ptrs, eqVL, eqV, eqA, eqC, eqCs, eqAs, eqCaps, EK.sz, rn, renOf, look_cons, look, arcV, fV]) (by simp [appN, ptrs, SV.lt, SA.lt, SC.lt, arcV, fV, lenN]) ?_
    rintro _ _ ⟨rfl, rfl⟩
    repeat' (first | exact rfl | ((conv => whnf); first | refine condP_dec (fun h => absurd h (by omega)) (fun h => ?_) | refine condP_dec (fun h => ?_) (fun h => absurd h (by omega)) | refine condP_dec (fun h => ?_) (fun h => ?_) | refine condP_ndec (fun h => absurd h (by omega)) (fun h => ?_) | refine condP_ndec (fun h => ?_) (fun h => absurd h (by omega)) | refine condP_ndec (fun h => ?_) (fun h => ?_) | refine condP_beq (fun h => absurd h (by omega)) (fun h => ?_) | refine condP_beq (fun h => ?_) (fun h => absurd h (by omega)) | refine condP_beq (fun h => ?_) (fun h => ?_) | refine condP_bne (fun h => absurd h (by omega)) (fun h => ?_) | refine condP_bne (fun h => ?_) (fun h => absurd h (by omega)) | refine condP_bne (fun h => ?_) (fun h => ?_) | refine condP_mk (fun h => ?_) (fun h => ?_) | refine Ob.mk (by (first | omega | (simp only [InI, nmin, List.length_append, List.length_replicate, List.length_cons, List.length_nil, List.length_map, List.length_set, List.length_take, List.length_drop, List.length_reverse, List.length_range, Nat.zero_add, Nat.add_zero, Int.toNat_natCast, EK.sz]; omega) | (simp only [InI, nmin, List.length_append, List.length_replicate, List.length_cons, List.length_nil, List.length_map, List.length_set, List.length_take, List.length_drop, List.length_reverse, List.length_range, Nat.zero_add, Nat.add_zero, Int.toNat_natCast, EK.sz] at *; omega))) ?_ | refine Ob.mk ?_ ?_ | refine Both.mk ?_ ?_ | refine draw_of Try.mixed Try.tyOk 60 (by kernel_rfl) ?_ | intro _))
    (conv => whnf)
    refine ⟨(p2, q3), [(4, some 19), (7, some 8), (8, some 15), (9, some 18), (10, some 11), (11, some 14), (12, some 17)], ⟨by rfl, ?_, ?_⟩, trivial⟩
    · simp [eqFr, eqHp, eqV, eqA, eqC, eqO, eqCs, eqAs, look_cons, look, rn, EK.cast, EK.sz, eqCaps]
    · simp [eqFr, eqHp, eqV, eqA, eqC, eqO, eqCs, eqAs, look_cons, look, rn, EK.cast, EK.sz, eqCaps, gV, behindF, behind0]
  · rintro ⟨sp, sq⟩ _ l D r β1 hrec
    dsimp only at hrec ⊢
    repeat' (first | exact rfl | ((conv => whnf); first | refine condP_dec (fun h => absurd h (by omega)) (fun h => ?_) | refine condP_dec (fun h => ?_) (fun h => absurd h (by omega)) | refine condP_dec (fun h => ?_) (fun h => ?_) | refine condP_ndec (fun h => absurd h (by omega)) (fun h => ?_) | refine condP_ndec (fun h => ?_) (fun h => absurd h (by omega)) | refine condP_ndec (fun h => ?_) (fun h => ?_) | refine condP_beq (fun h => absurd h (by omega)) (fun h => ?_) | refine condP_beq (fun h => ?_) (fun h => absurd h (by omega)) | refine condP_beq (fun h => ?_) (fun h => ?_) | refine condP_bne (fun h => absurd h (by omega)) (fun h => ?_) | refine condP_bne (fun h => ?_) (fun h => absurd h (by omega)) | refine condP_bne (fun h => ?_) (fun h => ?_) | refine condP_mk (fun h => ?_) (fun h => ?_) | refine Ob.mk (by (first | omega | (simp only [InI, nmin, List.length_append, List.length_replicate, List.length_cons, List.length_nil, List.length_map, List.length_set, List.length_take, List.length_drop, List.length_reverse, List.length_range, Nat.zero_add, Nat.add_zero, Int.toNat_natCast, EK.sz]; omega) | (simp only [InI, nmin, List.length_append, List.length_replicate, List.length_cons, List.length_nil, List.length_map, List.length_set, List.length_take, List.length_drop, List.length_reverse, List.length_range, Nat.zero_add, Nat.add_zero, Int.toNat_natCast, EK.sz] at *; omega))) ?_ | refine Ob.mk ?_ ?_ | refine Both.mk ?_ ?_ | refine draw_of Try.mixed Try.tyOk 60 (by kernel_rfl) ?_ | intro _))
    (conv => whnf)
    refine loopI (fun y : Nat × Nat => ⟨[(0, .c (.v (.func (.yield l) #[] #[]))), (1, .c (.ptr 4 0)), (6, .c (.sl 0 1 0 F.fin.length F.capF)), (7, .i F.fin.length), (8, .i y.1)],
      [(0, .arr false 3 .int F.fin 0), (1, .arr false 47 .arc F.arcs 0), (2, .arr false 3 .int G.fin 0), (3, .arr false 47 .arc G.arcs 0), (4, .box 25 (onF F)), (5, .box 25 [.i G.st, .i G.start, .sl 2 1 0 G.fin.length G.capF, .sl 3 5 0 G.arcs.length G.capA]), (6, .box 25 [.i 0, .i 0, .v (.slice none 0 0), .v (.slice none 0 0)]),
        (7, .box 130 (jCells (1 + F.st + G.st) 8 15 (behindF F G) (behind0 F G ++ endsL 1 (1 + F.st + G.start) F.fin y.1) sp y.2)), (8, .arr true 3 .int (behindF F G) sp), (15, .arr true 47 .arc (behind0 F G ++ endsL 1 (1 + F.st + G.start) F.fin y.1) y.2), (10, .box 95 [.ptr 7 0]), (11, .box 3 [.i 1]), (12, .box 3 [.i (1 + F.st)]), (14, loopO l r), (13, markO D)], 16⟩)
      (fun y => y.1 ≤ F.fin.length) (fun y => F.fin.length - y.1) (0, sq) [(15, some 9)] ⟨by rfl, ?_, ?_⟩ (Nat.zero_le _) ?_
    · simp [eqFr, eqHp, eqV, eqA, eqC, eqO, eqCs, eqAs, look_cons, look, rn, EK.cast, EK.sz, eqCaps]
    · simp [eqFr, eqHp, eqV, eqA, eqC, eqO, eqCs, eqAs, look_cons, look, rn, EK.cast, EK.sz, eqCaps, endsL, loopO, markO]
    · rintro ⟨k, q⟩ hk
      simp only at hk ⊢
      have hel := endsL_len 1 (1 + F.st + G.start) F.fin k
      have hes : endsL 1 (1 + F.st + G.start) F.fin (k + 1) = endsL 1 (1 + F.st + G.start) F.fin k ++ (if F.fin.getD k 0 = -1 then [] else [silA (1 + k) (1 + F.st + G.start) (F.fin.getD k 0)]) := rfl
      have hel2 : (behind0 F G ++ endsL 1 (1 + F.st + G.start) F.fin k).length ≤ 20000 := by simp; omega
      have e0 : 0 + (k : Int).toNat = k := by omega
      repeat' (first | exact rfl | ((conv => whnf); first | refine condP_dec (fun h => absurd h (by omega)) (fun h => ?_) | refine condP_dec (fun h => ?_) (fun h => absurd h (by omega)) | refine condP_dec (fun h => ?_) (fun h => ?_) | refine condP_ndec (fun h => absurd h (by omega)) (fun h => ?_) | refine condP_ndec (fun h => ?_) (fun h => absurd h (by omega)) | refine condP_ndec (fun h => ?_) (fun h => ?_) | refine condP_beq (fun h => absurd h (by omega)) (fun h => ?_) | refine condP_beq (fun h => ?_) (fun h => absurd h (by omega)) | refine condP_beq (fun h => ?_) (fun h => ?_) | refine condP_bne (fun h => absurd h (by omega)) (fun h => ?_) | refine condP_bne (fun h => ?_) (fun h => absurd h (by omega)) | refine condP_bne (fun h => ?_) (fun h => ?_) | refine condP_mk (fun h => ?_) (fun h => ?_) | refine Ob.mk (by (first | omega | (simp only [InI, nmin, List.length_append, List.length_replicate, List.length_cons, List.length_nil, List.length_map, List.length_set, List.length_take, List.length_drop, List.length_reverse, List.length_range, Nat.zero_add, Nat.add_zero, Int.toNat_natCast, EK.sz]; omega) | (simp only [InI, nmin, List.length_append, List.length_replicate, List.length_cons, List.length_nil, List.length_map, List.length_set, List.length_take, List.length_drop, List.length_reverse, List.length_range, Nat.zero_add, Nat.add_zero, Int.toNat_natCast, EK.sz] at *; omega))) ?_ | refine Ob.mk ?_ ?_ | refine Both.mk ?_ ?_ | refine draw_of Try.mixed Try.tyOk 60 (by kernel_rfl) ?_ | intro _))
      · (conv => whnf)
        refine yieldR (id := 14) Try.tyOk hrec rfl rfl rfl rfl rfl rfl rfl rfl ?_
        repeat' (first | exact rfl | ((conv => whnf); first | refine condP_dec (fun h => absurd h (by omega)) (fun h => ?_) | refine condP_dec (fun h => ?_) (fun h => absurd h (by omega)) | refine condP_dec (fun h => ?_) (fun h => ?_) | refine condP_ndec (fun h => absurd h (by omega)) (fun h => ?_) | refine condP_ndec (fun h => ?_) (fun h => absurd h (by omega)) | refine condP_ndec (fun h => ?_) (fun h => ?_) | refine condP_beq (fun h => absurd h (by omega)) (fun h => ?_) | refine condP_beq (fun h => ?_) (fun h => absurd h (by omega)) | refine condP_beq (fun h => ?_) (fun h => ?_) | refine condP_bne (fun h => absurd h (by omega)) (fun h => ?_) | refine condP_bne (fun h => ?_) (fun h => absurd h (by omega)) | refine condP_bne (fun h => ?_) (fun h => ?_) | refine condP_mk (fun h => ?_) (fun h => ?_) | refine Ob.mk (by (first | omega | (simp only [InI, nmin, List.length_append, List.length_replicate, List.length_cons, List.length_nil, List.length_map, List.length_set, List.length_take, List.length_drop, List.length_reverse, List.length_range, Nat.zero_add, Nat.add_zero, Int.toNat_natCast, EK.sz]; omega) | (simp only [InI, nmin, List.length_append, List.length_replicate, List.length_cons, List.length_nil, List.length_map, List.length_set, List.length_take, List.length_drop, List.length_reverse, List.length_range, Nat.zero_add, Nat.add_zero, Int.toNat_natCast, EK.sz] at *; omega))) ?_ | refine Ob.mk ?_ ?_ | refine Both.mk ?_ ?_ | refine draw_of Try.mixed Try.tyOk 60 (by kernel_rfl) ?_ | intro _))
        · exact ⟨rfl, rfl⟩
        (conv => whnf)
        refine callF (silent_c (1 + F.st + G.st) (behindF F G) (behind0 F G ++ endsL 1 (1 + F.st + G.start) F.fin k) sp q (1 + k) (1 + F.st + G.start) (F.fin.getD (0 + (k : Int).toNat) EK.int.dflt) (by omega)) [7, 8, 15] Try.call82 rfl (by simp [eqLs, eqL, eqO, eqC, eqCs, rn, renOf, look_cons, look, EK.cast]) (by simp [appN, ptrs, eqVL, eqV, eqA, eqC, eqCs, eqAs, eqCaps, EK.sz, rn, renOf, look_cons, look, arcV, fV]) (by simp [appN, ptrs, SV.lt, SA.lt, SC.lt, arcV, fV, lenN]) ?_
        rintro _ _ ⟨q2, rfl, rfl⟩
        repeat' (first | exact rfl | ((conv => whnf); first | refine condP_dec (fun h => absurd h (by omega)) (fun h => ?_) | refine condP_dec (fun h => ?_) (fun h => absurd h (by omega)) | refine condP_dec (fun h => ?_) (fun h => ?_) | refine condP_ndec (fun h => absurd h (by omega)) (fun h => ?_) | refine condP_ndec (fun h => ?_) (fun h => absurd h (by omega)) | refine condP_ndec (fun h => ?_) (fun h => ?_) | refine condP_beq (fun h => absurd h (by omega)) (fun h => ?_) | refine condP_beq (fun h => ?_) (fun h => absurd h (by omega)) | refine condP_beq (fun h => ?_) (fun h => ?_) | refine condP_bne (fun h => absurd h (by omega)) (fun h => ?_) | refine condP_bne (fun h => ?_) (fun h => absurd h (by omega)) | refine condP_bne (fun h => ?_) (fun h => ?_) | refine condP_mk (fun h => ?_) (fun h => ?_) | refine Ob.mk (by (first | omega | (simp only [InI, nmin, List.length_append, List.length_replicate, List.length_cons, List.length_nil, List.length_map, List.length_set, List.length_take, List.length_drop, List.length_reverse, List.length_range, Nat.zero_add, Nat.add_zero, Int.toNat_natCast, EK.sz]; omega) | (simp only [InI, nmin, List.length_append, List.length_replicate, List.length_cons, List.length_nil, List.length_map, List.length_set, List.length_take, List.length_drop, List.length_reverse, List.length_range, Nat.zero_add, Nat.add_zero, Int.toNat_natCast, EK.sz] at *; omega))) ?_ | refine Ob.mk ?_ ?_ | refine Both.mk ?_ ?_ | refine draw_of Try.mixed Try.tyOk 60 (by kernel_rfl) ?_ | intro _))
        (conv => whnf)
        refine ⟨(k + 1, q2), [(15, some 16)], ⟨by rfl, ?_, ?_⟩, by simp only; omega, by simp only; omega⟩
        · simp [eqFr, eqHp, eqV, eqA, eqC, eqO, eqCs, eqAs, look_cons, look, rn, EK.cast, EK.sz, eqCaps]
        · have hes2 : behind0 F G ++ endsL 1 (1 + F.st + G.start) F.fin (k + 1) = behind0 F G ++ endsL 1 (1 + F.st + G.start) F.fin k ++ [silA (1 + k) (1 + F.st + G.start) (F.fin.getD (0 + (k : Int).toNat) EK.int.dflt)] := by
            rw [hes, if_neg (by rw [← e0]; exact ‹¬F.fin.getD (0 + (k : Int).toNat) EK.int.dflt = -1›), List.append_assoc, e0]
            rfl
          simp [eqFr, eqHp, eqV, eqA, eqC, eqO, eqCs, eqAs, look_cons, look, rn, EK.cast, EK.sz, eqCaps, hes2, loopO, markO]
      · (conv => whnf)
        refine ⟨(k + 1, q), [], ⟨by rfl, ?_, ?_⟩, by simp only; omega, by simp only; omega⟩
        · simp [eqFr, eqHp, eqV, eqA, eqC, eqO, eqCs, eqAs, look_cons, look, rn, EK.cast, EK.sz, eqCaps]
        · have hes2 : endsL 1 (1 + F.st + G.start) F.fin (k + 1) = endsL 1 (1 + F.st + G.start) F.fin k := by
            rw [hes, if_pos (by rw [← e0]; exact ‹_›), List.append_nil]
          simp [eqFr, eqHp, eqV, eqA, eqC, eqO, eqCs, eqAs, look_cons, look, rn, EK.cast, EK.sz, eqCaps, hes2, loopO, markO]
      · have e : k = F.fin.length := by omega
        subst e
        have z1 : (behind0 F G ++ endsL 1 (1 + F.st + G.start) F.fin F.fin.length).length ≤ 1000000 := by omega
        (conv => whnf)
        refine callF (done_c (1 + F.st + G.st) (behindF F G) (behind0 F G ++ endsL 1 (1 + F.st + G.start) F.fin F.fin.length) sp q z1) [7, 8, 15] Try.call83 rfl (by simp [eqLs, eqL, eqO, eqC, eqCs, rn, renOf, look_cons, look, EK.cast]) (by simp [appN, ptrs, eqVL, eqV, eqA, eqC, eqCs, eqAs, eqCaps, EK.sz, rn, renOf, look_cons, look, arcV, fV]) (by simp [appN, ptrs, SV.lt, SA.lt, SC.lt, arcV, fV, lenN]) ?_
        rintro _ _ ⟨zs, sq', rfl, rfl, hz⟩
        repeat' (first | exact rfl | ((conv => whnf); first | refine condP_dec (fun h => absurd h (by omega)) (fun h => ?_) | refine condP_dec (fun h => ?_) (fun h => absurd h (by omega)) | refine condP_dec (fun h => ?_) (fun h => ?_) | refine condP_ndec (fun h => absurd h (by omega)) (fun h => ?_) | refine condP_ndec (fun h => ?_) (fun h => absurd h (by omega)) | refine condP_ndec (fun h => ?_) (fun h => ?_) | refine condP_beq (fun h => absurd h (by omega)) (fun h => ?_) | refine condP_beq (fun h => ?_) (fun h => absurd h (by omega)) | refine condP_beq (fun h => ?_) (fun h => ?_) | refine condP_bne (fun h => absurd h (by omega)) (fun h => ?_) | refine condP_bne (fun h => ?_) (fun h => absurd h (by omega)) | refine condP_bne (fun h => ?_) (fun h => ?_) | refine condP_mk (fun h => ?_) (fun h => ?_) | refine Ob.mk (by (first | omega | (simp only [InI, nmin, List.length_append, List.length_replicate, List.length_cons, List.length_nil, List.length_map, List.length_set, List.length_take, List.length_drop, List.length_reverse, List.length_range, Nat.zero_add, Nat.add_zero, Int.toNat_natCast, EK.sz]; omega) | (simp only [InI, nmin, List.length_append, List.length_replicate, List.length_cons, List.length_nil, List.length_map, List.length_set, List.length_take, List.length_drop, List.length_reverse, List.length_range, Nat.zero_add, Nat.add_zero, Int.toNat_natCast, EK.sz] at *; omega))) ?_ | refine Ob.mk ?_ ?_ | refine Both.mk ?_ ?_ | refine draw_of Try.mixed Try.tyOk 60 (by kernel_rfl) ?_ | intro _))
        (conv => whnf)
        refine ⟨[(4, some 8), (5, some 15)], [(4, .arr true 3 .int (behindF F G) sp), (5, .arr true 47 .arc zs sq')], 6, .tup [.agg [.i (1 + F.st + G.st), .i 0, .sl 4 1 0 (behindF F G).length ((behindF F G).length + sp), .sl 5 5 0 zs.length (zs.length + sq')], .c (.i 0)], ⟨by rfl, trivial, by simp [eqFr, eqHp, eqV, eqA, eqC, eqO, eqCs, eqAs, look_cons, look, rn, EK.cast, EK.sz, eqCaps]⟩, by simp [eqV, eqA, eqAs, eqC, eqCs, rn, look, look_cons, EK.sz], zs, sp, sq', rfl, rfl, hz⟩
end Go.Fw
