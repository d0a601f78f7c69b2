/- Every operation of the evaluator is the model's. Conditions: none. -/
import Derived.Test.YtbhbjmneglkgnaaAiSlice
namespace Go.Proofs.Ytbhbjmneglkgnaa.AI
open Go Go.RowKit

variable {P : Program} {E : Env} {T : TypeId} {B : Nat} {w0 : World} {I0 : Nat → Nat → Prop} {ρ ρ' : Nat → Place} {I I' : Nat → Nat → Prop} {m : Nat → Option Row} {w w' : World}

/-- An operation, or the call that it is, leaves a value and a world of which 'Φ' holds. -/
def OpWp (P : Program) (s : Sem Next) (w : World) (Φ : Value → World → Prop) : Prop :=
  match s.run P w with
  | .ok (.value v) w' => Φ v w'
  | .ok (.enter f args) w' => Calls P f args w' fun e w'' => ∃ v, e = .returned v ∧ Φ v w''
  | _ => False

def OpOK (P : Program) (s : Sem Next) (T : TypeId) (B : Nat) (w0 : World) (I0 : Nat → Nat → Prop) (ρ : Nat → Place) (I : Nat → Nat → Prop) (w : World) (m : Nat → Option Row) (d : Nat) : R0 → Prop
  | .no => True
  | .val v => ∃ x, s.run P w = .ok (.value x) w ∧ Rep T I w ρ v x
  | .valc p v => p → ∃ x, s.run P w = .ok (.value x) w ∧ Rep T I w ρ v x
  | .eff p v kb new fz => (∀ q, p = some q → q) → (new.isSome = true → m d = none) →
    OpWp P s w (fun x w' => ∃ ρ' I', Ext ρ I w ρ' I' w' ∧ MRel T B w0 I0 ρ' I' (effM m d new fz) w' ∧ Rep T I' w' ρ' v x) ∧ ∀ b, kb = some b → v = .bit b

theorem run_value (s : Sem Value) (w : World) {x : Value} {w' : World} (h : s.run P w = .ok x w') : (do pure (Next.value (← s)) : Sem Next).run P w = .ok (.value x) w' := by
  simp [h]

theorem OpOK.of {s : Sem Value} {d : Nat} {r : R0} (h : EffOK P s T B w0 I0 ρ I w m d r) : OpOK P (do pure (Next.value (← s))) T B w0 I0 ρ I w m d r := by
  cases r with
  | no => trivial
  | val v => obtain ⟨x, h1, h2⟩ := h; exact ⟨x, run_value s w h1, h2⟩
  | valc p v => intro hp; obtain ⟨x, h1, h2⟩ := h hp; exact ⟨x, run_value s w h1, h2⟩
  | eff p v kb new fz =>
    intro hp hn
    obtain ⟨⟨x, w', ρ', I', h1, h2⟩, h3⟩ := h hp hn
    refine ⟨?_, h3⟩
    unfold OpWp
    rw [run_value s w h1]
    exact ⟨ρ', I', h2⟩

theorem OpOK.of_val {s : Sem Value} {d : Nat} {r : R0} (h : ValOK T I w ρ P s r) (hr : ∀ p v k n f, r ≠ .eff p v k n f) : OpOK P (do pure (Next.value (← s))) T B w0 I0 ρ I w m d r :=
  OpOK.of (EffOK.of_val h hr)

theorem repL_const : ∀ l : List Value, oneCells l = true → RepL T I w ρ (l.map AV.ofCell) l
  | [], _ => by simp [RepL]
  | v :: r, h => by
    simp only [oneCells, Bool.and_eq_true] at h
    simp only [List.map_cons, RepL]
    exact ⟨⟨h.1, rep_ofCell v⟩, repL_const r h.2⟩
theorem rep_const (v : Value) : Rep T I w ρ (AV.ofConst v) v := by
  unfold AV.ofConst
  split
  · split
    · rename_i cs _ h
      simp only [Rep, Rep2]
      exact ⟨cs, rfl, repL_const _ h⟩
    · simp [Rep, Rep2, Rep1]
  · exact Rep.of1 (rep_ofCell _)

theorem rep_ev {t : Nat → AV} {tmps : Array Value} {ds : List Deferred} (h : ∀ i, Rep T I w ρ (t i) (tmps.getD i undef)) (x : Operand) : Rep T I w ρ (evO t x) ((⟨tmps, ds⟩ : Act).eval x) := by
  cases x with
  | tmp i => exact h i
  | const v => exact rep_const v
  | global g => simp [evO, Rep, Rep2, Rep1]
  | func f =>
    simp only [evO, Act.eval, Rep, Rep2, Rep1]
    exact ⟨#[], #[], rfl, by simp [RepM], by simp [RepM]⟩

theorem rep2_of {v : AV} {x : Value} (ho : noTup v = true) (h : Rep T I w ρ v x) : Rep2 T I w ρ v x := by
  cases v <;> first
    | (simp [noTup] at ho; done)
    | simpa only [Rep] using h

theorem hasIdL_mem {id : Nat} {v : AV} : ∀ {l : List AV}, v ∈ l → hasId id v = true → hasIdL id l = true
  | a :: r, hm, h => by
    simp only [hasIdL]
    rcases List.mem_cons.1 hm with e | e
    · subst e; simp [h]
    · simp [hasIdL_mem e h]

/-- The arguments of a call, read one by one. -/
theorem rep2L_map {ev : Operand → AV} {evc : Operand → Value} (hev : ∀ x, Rep T I w ρ (ev x) (evc x)) : ∀ l : List Operand, noTups (l.map ev) = true → Rep2L T I w ρ (l.map ev) (l.map evc)
  | [], _ => trivial
  | x :: r, h => by
    simp only [List.map_cons, noTups, Bool.and_eq_true] at h
    exact ⟨rep2_of h.1 (hev x), rep2L_map hev r h.2⟩
theorem rep2L_append : ∀ {l l' : List AV} {s s' : List Value}, Rep2L T I w ρ l s → Rep2L T I w ρ l' s' → Rep2L T I w ρ (l ++ l') (s ++ s')
  | [], _, [], _, _, h => h
  | _ :: _, _, _ :: _, _, h, h' => ⟨h.1, rep2L_append h.2 h'⟩
  | [], _, _ :: _, _, h, _ => h.elim
  | _ :: _, _, [], _, h, _ => h.elim
theorem rep2L_of_repL : ∀ {l : List AV} {s : List Value}, RepL T I w ρ l s → Rep2L T I w ρ l s
  | [], [], _ => trivial
  | _ :: _, _ :: _, h => by simp only [RepL] at h; exact ⟨.of1 h.1.2, rep2L_of_repL h.2⟩
  | [], _ :: _, h => by simp only [RepL] at h
  | _ :: _, [], h => by simp only [RepL] at h

/-- A call by its contract. -/
theorem call_sound (M : MRel T B w0 I0 ρ I m w) (d : Nat) {f : FuncId} {args : List AV} {vs : Array Value} {r : AV} (hr : FnOK P T f (pureL m args) r) (hc : Rep2L T I w ρ args vs.toList) :
    Calls P f vs w fun e w' => ∃ x, e = .returned x ∧ ∃ ρ' I', Ext ρ I w ρ' I' w' ∧ MRel T B w0 I0 ρ' I' (effM m d none (fzArgs args)) w' ∧ Rep T I' w' ρ' r x := by
  have M0 := M.frz d (fun id => hasIdL id args)
  have X0 : Ext ρ I w ρ (frzI ρ (fun id => hasIdL id args) I) w := Ext.frz _
  refine (hr _ w vs M0.ilt (pure2L_sound M _ args vs.toList (fun _ h => h) hc)).mono fun e w' ⟨x, he, hb, hrep⟩ => ⟨x, he, ρ, newI (frzI ρ (fun id => hasIdL id args) I) w w', ?_, ?_, ?_⟩
  · exact X0.trans (Ext.of_below M0.ilt hb fun _ _ h => .inl h)
  · refine M0.world hb (fun _ _ h => .inl h) (fun b k h => ?_) (fun b k h => ?_)
    · rcases h with h | h
      · exact .inl h
      · exact .inr h.1
    · rcases h with h | h
      · exact Nat.lt_of_lt_of_le (M0.ilt b k h) hb.size
      · exact h.2
  · refine Rep.mono ⟨fun id h => absurd rfl h, fun _ _ h => h, fun _ _ _ => rfl⟩ _ _ hrep

theorem rep_flat {r : AV} (h : flatR r = true) {x : Value} {I I' : Nat → Nat → Prop} {w w' : World} {ρ ρ' : Nat → Place} (hr : Rep T I w ρ r x) : Rep T I' w' ρ' r x := by
  cases r <;> first
    | (simp [flatR] at h; done)
    | simpa only [Rep, Rep2, Rep1] using hr
/-- A call whose result names nothing in memory: nothing is frozen for it. -/
theorem callF_sound (M : MRel T B w0 I0 ρ I m w) (d : Nat) {f : FuncId} {args : List AV} {vs : Array Value} {r : AV} (hr : FnOK P T f (pureL m args) r) (hfl : flatR r = true) (hc : Rep2L T I w ρ args vs.toList) :
    Calls P f vs w fun e w' => ∃ x, e = .returned x ∧ ∃ ρ' I', Ext ρ I w ρ' I' w' ∧ MRel T B w0 I0 ρ' I' (effM m d none fz0) w' ∧ Rep T I' w' ρ' r x := by
  have M0 := M.frz d (fun id => hasIdL id args)
  refine (hr _ w vs M0.ilt (pure2L_sound M _ args vs.toList (fun _ h => h) hc)).mono fun e w' ⟨x, he, hb, hrep⟩ => ⟨x, he, ρ, I, Ext.of_below M.ilt hb fun _ _ h => h, ?_, rep_flat hfl hrep⟩
  rw [effM_fz0]
  exact M.world hb (fun _ _ h => h) (fun _ _ h => .inl h) fun b k h => Nat.lt_of_lt_of_le (M.ilt b k h) hb.size
/-- A call that makes a row. -/
theorem callN_sound (M : MRel T B w0 I0 ρ I m w) {d : Nat} (hd : m d = none) {f : FuncId} {args : List AV} {vs : Array Value} {r : Row} (hr : FnNew P T f (pureL m args) r) (hc : Rep2L T I w ρ args vs.toList) :
    Calls P f vs w fun e w' => ∃ x, e = .returned x ∧ ∃ ρ' I', Ext ρ I w ρ' I' w' ∧ MRel T B w0 I0 ρ' I' (effM m d (some r) (fzArgs args)) w' ∧ Rep T I' w' ρ' (.own d r.n) x := by
  have M0 := M.frz d (fun id => hasIdL id args)
  have X0 : Ext ρ I w ρ (frzI ρ (fun id => hasIdL id args) I) w := Ext.frz _
  have hd0 : effM m d none (fzB fun id => hasIdL id args) d = none := by rw [effM_none, hd]; rfl
  have hbx := hr.bx
  refine (hr.go _ w vs M0.ilt (pure2L_sound M _ args vs.toList (fun _ h => h) hc)).mono fun e w' ⟨x, he, hb, hx⟩ => ⟨x, he, ?_⟩
  have M1 := M0.world hb (I' := frzI ρ (fun id => hasIdL id args) I) (fun _ _ h => h) (fun _ _ h => .inl h) (fun b k h => Nat.lt_of_lt_of_le (M0.ilt b k h) hb.size)
  have X1 : Ext ρ I w ρ (frzI ρ (fun id => hasIdL id args) I) w' := X0.trans (Ext.of_below M0.ilt hb fun _ _ h => h)
  rcases hx with ⟨hst, hn, rfl⟩ | ⟨b, cap, arr, rfl, hB, hn, hcap, harr, hs, hcells⟩
  · have M2 := M1.new_ (d := d) (r := r) (p := .nil r.sz) hd0 ⟨rfl, hn⟩ (fun _ _ _ _ h => by cases h)
    rw [effM_two] at M2
    refine ⟨_, _, X1.trans (Ext.upd (M.dom d hd)), M2, ?_⟩
    simp only [Rep, Rep2, Rep1]
    exact .inr ⟨_, upd_self _ _ _, hn, trivial⟩
  · have M2 := M1.new_ (d := d) (r := r) (p := .at b cap r.sz r.n) hd0 ⟨rfl, rfl, Nat.le_trans M.hB hB, hn, hcap, ⟨arr, harr, hs, fun i j hi hj => by
        obtain ⟨c, h1, h2, h3⟩ := hcells i j hi hj
        exact ⟨c, h1, h2, rep1_flat (hr.flat i j hi hj) h3⟩⟩, fun _ k hk => absurd (M0.ilt _ _ hk) (by omega), fun _ k hk => absurd (M0.ilt _ _ hk) (by omega)⟩ (fun g c1 s1 n1 h id c2 s2 n2 hid => by
        injection h with e1
        have := M0.lt_ hid
        omega)
    rw [effM_two] at M2
    refine ⟨_, _, X1.trans (Ext.upd (M.dom d hd)), M2, ?_⟩
    simp only [Rep, Rep2, Rep1]
    exact .inl ⟨_, _, _, upd_self _ _ _, rfl⟩

theorem newAt_row {w w' : World} {r : Row} {x : Value} {p : Place} {ρ' : Nat → Place} {I' : Nat → Nat → Prop} (hbx : r.bx = false) (hflat : ∀ i j, i < r.n → j < r.sz → flatC (r.f i j) = true) (h : NewAt T w w' r x p)
    (hB : B ≤ w.heap.size) (hI : ∀ b k, I' b k → b < w.heap.size) : RowRep T B ρ' I' w' r p := by
  cases p with
  | no => exact h.elim
  | nil sz =>
    exact ⟨h.1, h.2.1⟩
  | «at» b cap sz n =>
    obtain ⟨rfl, rfl, _, h4, h5, h6, arr, h7, h8, h9⟩ := h
    exact ⟨rfl, rfl, Nat.le_trans hB h4, h5, h6, ⟨arr, h7, h8, fun i j hi hj => by
      obtain ⟨c, q1, q2, q3⟩ := h9 i j hi hj
      exact ⟨c, q1, q2, rep1_flat (hflat i j hi hj) q3⟩⟩, fun _ k hk => absurd (hI _ _ hk) (by omega), fun _ k hk => absurd (hI _ _ hk) (by omega)⟩
theorem newAt_rep {w w' : World} {r : Row} {x : Value} {p : Place} {ρ' : Nat → Place} {I' : Nat → Nat → Prop} {d : Nat} (h : NewAt T w w' r x p) (hp : ρ' d = p) : x.oneCell' = true ∧ Rep1 T I' w' ρ' (.own d r.n) x := by
  cases p with
  | no => exact h.elim
  | nil sz =>
    obtain ⟨_, h3, rfl⟩ := h
    refine ⟨rfl, ?_⟩
    simp only [Rep1]
    exact .inr ⟨_, hp, h3, trivial⟩
  | «at» b cap sz n =>
    obtain ⟨_, rfl, rfl, _⟩ := h
    refine ⟨rfl, ?_⟩
    simp only [Rep1]
    exact .inl ⟨_, _, _, hp, rfl⟩
theorem repL_flat {I I' : Nat → Nat → Prop} {w w' : World} {ρ ρ' : Nat → Place} : ∀ {l : List AV} {s : List Value}, (∀ v, v ∈ l → flatC v = true) → RepL T I w ρ l s → RepL T I' w' ρ' l s
  | [], [], _, _ => by simp only [RepL]
  | v :: l, x :: s, h, hr => by
    simp only [RepL] at hr ⊢
    exact ⟨⟨hr.1.1, rep1_flat (h v (List.mem_cons_self ..)) hr.1.2⟩, repL_flat (fun v hv => h v (List.mem_cons_of_mem _ hv)) hr.2⟩
  | [], _ :: _, _, hr => by simp only [RepL] at hr
  | _ :: _, [], _, hr => by simp only [RepL] at hr
/-- A call that makes two rows. -/
theorem callN2_sound (M : MRel T B w0 I0 ρ I m w) {d d2 : Nat} (hd : m d = none) (hd2 : m d2 = none) (hne : d2 ≠ d) {f : FuncId} {args : List AV} {vs : Array Value} {r1 r2 : Row} {rest : List AV} (hr : FnNew2 P T f (pureL m args) r1 r2 rest) (hc : Rep2L T I w ρ args vs.toList) :
    Calls P f vs w fun e w' => ∃ x, e = .returned x ∧ ∃ ρ' I', Ext ρ I w ρ' I' w' ∧ MRel T B w0 I0 ρ' I' (effM (effM m d (some r1) (fzArgs args)) d2 (some r2) fz0) w' ∧ Rep T I' w' ρ' (.agg (.own d r1.n :: .own d2 r2.n :: rest)) x := by
  have M0 := M.frz d (fun id => hasIdL id args)
  have X0 : Ext ρ I w ρ (frzI ρ (fun id => hasIdL id args) I) w := Ext.frz _
  have hd0 : effM m d none (fzB fun id => hasIdL id args) d = none := by rw [effM_none, hd]; rfl
  refine (hr.go _ w vs M0.ilt (pure2L_sound M _ args vs.toList (fun _ h => h) hc)).mono fun e w' ⟨x1, x2, xs, p1, p2, he, hb, hx1, hx2, hdis, hrest⟩ => ⟨_, he, ?_⟩
  have M1 := M0.world hb (I' := frzI ρ (fun id => hasIdL id args) I) (fun _ _ h => h) (fun _ _ h => .inl h) (fun b k h => Nat.lt_of_lt_of_le (M0.ilt b k h) hb.size)
  have X1 : Ext ρ I w ρ (frzI ρ (fun id => hasIdL id args) I) w' := X0.trans (Ext.of_below M0.ilt hb fun _ _ h => h)
  have M2 := M1.new_ (d := d) (r := r1) (p := p1) hd0 (newAt_row hr.bx1 hr.flat1 hx1 M.hB M0.ilt) (fun g c1 s1 n1 h id c2 s2 n2 hid => by
    subst h
    obtain ⟨_, _, _, h4, _⟩ := hx1
    have := M0.lt_ hid
    omega)
  rw [effM_two] at M2
  have hd3 : effM m d (some r1) (fzArgs args) d2 = none := by rw [effM_other m d _ _ hne, hd2]; rfl
  have M3 := M2.new_ (d := d2) (r := r2) (p := p2) hd3 (newAt_row hr.bx2 hr.flat2 hx2 M.hB M0.ilt) (fun g c1 s1 n1 h id c2 s2 n2 hid => by
    by_cases e : id = d
    · subst e
      rw [upd_self] at hid
      exact hdis _ _ _ _ _ _ _ hid h
    · subst h
      obtain ⟨_, _, _, h4, _⟩ := hx2
      have hid : ρ id = .at g c2 s2 n2 := by simpa [updP, e] using hid
      have := M0.lt_ hid
      omega)
  refine ⟨_, _, (X1.trans (Ext.upd (M.dom d hd))).trans (Ext.upd (M2.dom d2 hd3)), M3, ?_⟩
  simp only [Rep, Rep2]
  refine ⟨_, rfl, ?_⟩
  have e1 : updP (updP ρ d p1) d2 p2 d = p1 := by simp [updP, Ne.symm hne]
  simp only [RepL]
  exact ⟨newAt_rep hx1 e1, newAt_rep hx2 (upd_self _ _ _), repL_flat hr.flat hrest⟩

theorem two_args' {ev : Operand → AV} {evc : Operand → Value} (hev : ∀ x, Rep T I w ρ (ev x) (evc x)) {cargs : Array Operand} {x y : AV} (h : cargs.toList.map ev = [x, y]) :
    ∃ a b, cargs = #[a, b] ∧ Rep T I w ρ x (evc a) ∧ Rep T I w ρ y (evc b) := by
  match hc : cargs.toList, h with
  | [a, b], h =>
    simp only [List.map_cons, List.map_nil, List.cons.injEq, and_true] at h
    obtain ⟨rfl, rfl⟩ := h
    exact ⟨a, b, by apply Array.ext'; simpa using hc, hev a, hev b⟩
theorem two_args {ev : Operand → AV} {evc : Operand → Value} (hev : ∀ x, Rep T I w ρ (ev x) (evc x)) {cargs : Array Operand} {x y : AV} (h : cargs.toList.map ev = [x, y]) :
    ∃ a b, cargs = #[a, b] ∧ Rep T I w ρ x (evc a) ∧ Rep T I w ρ y (evc b) := two_args' hev h
theorem three_args {ev : Operand → AV} {evc : Operand → Value} (hev : ∀ x, Rep T I w ρ (ev x) (evc x)) {cargs : Array Operand} {x y z : AV} (h : cargs.toList.map ev = [x, y, z]) :
    ∃ a b c, cargs = #[a, b, c] ∧ Rep T I w ρ x (evc a) ∧ Rep T I w ρ y (evc b) ∧ Rep T I w ρ z (evc c) := by
  match hc : cargs.toList, h with
  | [a, b, c], h =>
    simp only [List.map_cons, List.map_nil, List.cons.injEq, and_true] at h
    obtain ⟨rfl, rfl, rfl⟩ := h
    exact ⟨a, b, c, by apply Array.ext'; simpa using hc, hev a, hev b, hev c⟩

theorem four_args {ev : Operand → AV} {evc : Operand → Value} (hev : ∀ x, Rep T I w ρ (ev x) (evc x)) {cargs : Array Operand} {x y z u : AV} (h : cargs.toList.map ev = [x, y, z, u]) :
    ∃ a b c d, cargs = #[a, b, c, d] ∧ Rep T I w ρ x (evc a) ∧ Rep T I w ρ y (evc b) ∧ Rep T I w ρ z (evc c) ∧ Rep T I w ρ u (evc d) := by
  match hc : cargs.toList, h with
  | [a, b, c, d], h =>
    simp only [List.map_cons, List.map_nil, List.cons.injEq, and_true] at h
    obtain ⟨rfl, rfl, rfl, rfl⟩ := h
    exact ⟨a, b, c, d, by apply Array.ext'; simpa using hc, hev a, hev b, hev c, hev d⟩
theorem run_min_int4 (ts : Array TypeId) (t : TypeId) (k k' k'' k3 : IntKind) (x y z u : Int) : (Builtin.min_ ts t #[.int k x, .int k' y, .int k'' z, .int k3 u]).run P w =
    .ok (.int k (if u < (if z < (if y < x then y else x) then z else (if y < x then y else x)) then u else (if z < (if y < x then y else x) then z else (if y < x then y else x)))) w := by
  simp [Builtin.min_, Builtin.min2]

theorem acall_sound (h : TabOK P E) (sp : SpecOK P E) (M : MRel E.errT B w0 I0 ρ I m w) {ev : Operand → AV} {evc : Operand → Value} (hev : ∀ x, Rep E.errT I w ρ (ev x) (evc x)) (c : Call) (ty : TypeId) (d : Nat) :
    OpOK P (do let d ← resolve evc c ty; invoke d.target d.args) E.errT B w0 I0 ρ I w m d (acall E c d ev m) := by
  obtain ⟨callee, cargs, cts⟩ := c
  unfold acall
  split
  · rename_i fo hfo
    simp only at hfo
    subst hfo
    split
    · rename_i f first caps hf
      have hfr := hev fo
      rw [hf] at hfr
      simp only [Rep, Rep2, Rep1] at hfr
      obtain ⟨xs, ys, hv, h1, h2⟩ := hfr
      have hrun : Callable P f → (do let d ← resolve evc { callee := .value fo, args := cargs, argTypes := cts } ty; invoke d.target d.args : Sem Next).run P w = .ok (.enter f (xs ++ cargs.map evc ++ ys)) w := fun hc => by
        simp [resolve, hv, Deferred.ofValue, invoke, run_callFunc hc]
      have hargs : noTups (cargs.toList.map ev) = true → Rep2L E.errT I w ρ (first ++ cargs.toList.map ev ++ caps) (xs ++ cargs.map evc ++ ys).toList := fun hno => by
        simp only [Array.toList_append, Array.toList_map]
        exact rep2L_append (rep2L_append ((repM_iff _ _).1 h1) (rep2L_map hev _ hno)) ((repM_iff _ _).1 h2)
      have hsp := sp f (pureL m (first ++ cargs.toList.map ev ++ caps))
      split
      · trivial
      · trivial
      · rename_i r hno hs
        rw [hs] at hsp
        intro _ _
        refine ⟨?_, fun b hb => by cases hb⟩
        unfold OpWp
        rw [hrun hsp.1]
        exact call_sound M d hsp.2 (hargs hno)
      · rename_i b hno hs
        rw [hs] at hsp
        intro _ _
        refine ⟨?_, fun b' hb => by injection hb with hb; rw [hb]⟩
        unfold OpWp
        rw [hrun hsp.1]
        exact call_sound M d hsp.2 (hargs hno)
      · rename_i p r hno hs
        rw [hs] at hsp
        intro hp _
        refine ⟨?_, fun b hb => by cases hb⟩
        unfold OpWp
        rw [hrun hsp.1]
        exact call_sound M d (hsp.2 (hp p rfl)) (hargs hno)
      · rename_i p r hno hs
        rw [hs] at hsp
        split
        · rename_i hfl
          intro hp _
          refine ⟨?_, fun b hb => by cases hb⟩
          unfold OpWp
          rw [hrun hsp.1]
          exact callF_sound M d (hsp.2 (hp p rfl)) hfl (hargs hno)
        · trivial
      · rename_i p r hno hs
        rw [hs] at hsp
        intro hp hd
        refine ⟨?_, fun b hb => by cases hb⟩
        unfold OpWp
        rw [hrun hsp.1]
        exact callN_sound M (hd rfl) (hsp.2 (hp p rfl)) (hargs hno)
      · trivial
    · trivial
  · rename_i hb
    simp only at hb
    subst hb
    split
    · rename_i x t hx ht
      simp only at hx ht
      match hca : cargs.toList, hx with
      | [xo], hx =>
        simp only [List.map_cons, List.map_nil, List.cons.injEq, and_true] at hx
        have hxr := hev xo
        subst hx
        have e1 : cargs = #[xo] := by apply Array.ext'; simpa using hca
        have e2 : cts = #[t] := by apply Array.ext'; simpa using ht
        subst e1; subst e2
        have hrun : ∀ {v : Value}, (Builtin.len_ #[t] ty #[evc xo]).run P w = .ok v w → (do let d ← resolve evc { callee := .builtin .len, args := #[xo], argTypes := #[t] } ty; invoke d.target d.args : Sem Next).run P w = .ok (.value v) w := fun hv => by
          simp [resolve, invoke, builtin, hv]
        split
        · rename_i e _ _ _ n sz f hte hxe
          have hu := tab_slice h hte
          rw [hxe] at hxr
          simp only [Rep, Rep2, Rep1] at hxr
          obtain ⟨a, cap, hv, _⟩ := hxr
          exact ⟨_, hrun (by simp [Builtin.len_, run_underlying hu, hv, goInt]), rep_int.2 rfl⟩
        · rename_i e _ _ _ id n hte hxe
          have hu := tab_slice h hte
          rw [hxe] at hxr
          simp only [Rep, Rep2, Rep1] at hxr
          rcases hxr with ⟨g, cap, sz, _, hv⟩ | ⟨sz, _, rfl, hv⟩
          · exact ⟨_, hrun (by simp [Builtin.len_, run_underlying hu, hv, goInt]), rep_int.2 rfl⟩
          · exact ⟨_, hrun (by simp [Builtin.len_, run_underlying hu, hv, goInt]), rep_int.2 rfl⟩
        · rename_i e _ _ _ id n f hte hxe
          have hu := tab_slice h hte
          rw [hxe] at hxr
          simp only [Rep, Rep2, Rep1] at hxr
          rcases hxr with ⟨g, cap, e', _, _, _, _, x, hv, _⟩ | ⟨sz, _, rfl, hv⟩
          · exact ⟨_, hrun (by simp [Builtin.len_, run_underlying hu, hv, goInt]), rep_int.2 rfl⟩
          · exact ⟨_, hrun (by simp [Builtin.len_, run_underlying hu, hv, goInt]), rep_int.2 rfl⟩
        · rename_i e _ _ _ hte hxe
          have hu := tab_slice h hte
          rw [hxe, rep_nilS] at hxr
          exact ⟨_, hrun (by simp [Builtin.len_, run_underlying hu, hxr, goInt]), rep_int.2 rfl⟩
        · rename_i n e _ _ _ hte
          have hu := tab_array h hte
          exact ⟨_, hrun (by simp [Builtin.len_, run_underlying hu, goInt]), rep_int.2 rfl⟩
        · trivial
    · trivial
  · rename_i hb
    simp only at hb
    subst hb
    split
    · rename_i a b hl
      obtain ⟨v, v', e1, h1, h2⟩ := two_args hev hl
      rw [rep_int] at h1 h2
      subst e1
      refine ⟨.int .i64 (max a b), ?_, rep_int.2 rfl⟩
      have : max a b = if b > a then b else a := by rw [Int.max_def]; split <;> split <;> omega
      simp [resolve, invoke, builtin, h1, h2, run_max_int2, this]
    · rename_i a b e hl
      obtain ⟨v, v', v'', e1, h1, h2, h3⟩ := three_args hev hl
      rw [rep_int] at h1 h2 h3
      subst e1
      refine ⟨.int .i64 (max (max a b) e), ?_, rep_int.2 rfl⟩
      have : max (max a b) e = if e > (if b > a then b else a) then e else (if b > a then b else a) := by rw [Int.max_def, Int.max_def]; split <;> split <;> split <;> omega
      simp [resolve, invoke, builtin, h1, h2, h3, run_max_int3, this]
    · trivial
  · rename_i hb
    simp only at hb
    subst hb
    split
    · rename_i a b hl
      obtain ⟨v, v', e1, h1, h2⟩ := two_args hev hl
      rw [rep_int] at h1 h2
      subst e1
      refine ⟨.int .i64 (min a b), ?_, rep_int.2 rfl⟩
      have : min a b = if b < a then b else a := by rw [Int.min_def]; split <;> split <;> omega
      simp [resolve, invoke, builtin, h1, h2, run_min_int2, this]
    · rename_i a b e hl
      obtain ⟨v, v', v'', e1, h1, h2, h3⟩ := three_args hev hl
      rw [rep_int] at h1 h2 h3
      subst e1
      refine ⟨.int .i64 (min (min a b) e), ?_, rep_int.2 rfl⟩
      have : min (min a b) e = if e < (if b < a then b else a) then e else (if b < a then b else a) := by rw [Int.min_def, Int.min_def]; split <;> split <;> split <;> omega
      simp [resolve, invoke, builtin, h1, h2, h3, run_min_int3, this]
    · rename_i a b e f hl
      obtain ⟨v, v', v'', v3, e1, h1, h2, h3, h4⟩ := four_args hev hl
      rw [rep_int] at h1 h2 h3 h4
      subst e1
      refine ⟨.int .i64 (min (min (min a b) e) f), ?_, rep_int.2 rfl⟩
      have : min (min (min a b) e) f = if f < (if e < (if b < a then b else a) then e else (if b < a then b else a)) then f else (if e < (if b < a then b else a) then e else (if b < a then b else a)) := by
        rw [Int.min_def, Int.min_def, Int.min_def]; split <;> split <;> split <;> split <;> omega
      rw [this]
      simp [resolve, invoke, builtin, h1, h2, h3, h4, run_min_int4]
    · trivial
  · rename_i hb
    simp only at hb
    subst hb
    split
    · rename_i s x t t' hl hts
      simp only at hts
      obtain ⟨sv, xv, e1, h1, h2⟩ := two_args' hev hl
      subst e1
      have e2 : cts = #[t, t'] := by apply Array.ext'; simpa using hts
      subst e2
      have conv : ∀ {r : R0}, EffOK P (Builtin.append_ #[t, t'] ty #[evc sv, evc xv]) E.errT B w0 I0 ρ I w m d r →
          OpOK P (do let d ← resolve evc { callee := .builtin .append, args := #[sv, xv], argTypes := #[t, t'] } ty; invoke d.target d.args) E.errT B w0 I0 ρ I w m d r := fun hr => by
        have := OpOK.of hr
        have e3 : (do let d ← resolve evc { callee := .builtin .append, args := #[sv, xv], argTypes := #[t, t'] } ty; invoke d.target d.args : Sem Next) = (do pure (Next.value (← Builtin.append_ #[t, t'] ty #[evc sv, evc xv]))) := by
          simp [resolve, invoke, builtin]
        rw [e3]; exact this
      refine conv ?_
      unfold aapp
      split
      · rename_i e _ _ _ htt hte
        have htt' : t = t' := Nat.eq_of_beq_eq_true htt
        subst htt'
        have hu := tab_slice h hte
        split
        · rename_i desc ts tb z he
          obtain ⟨ie, ze, ge⟩ := h.gives he
          split
          · rename_i k g hts0 hnews
            have hts0' : 0 < ts := by simpa using hts0
            split
            · intro hp hd
              have hd' := hd rfl
              rw [rep_nilS] at h1
              obtain ⟨hb, hk⟩ := hp _ rfl
              exact ⟨(append_sound M hd' hu ge hts0' hnews h2).1 _ h1 hb hk, fun b hb => by cases hb⟩
            · rename_i id n
              split
              · rename_i re sz rn f st hm
                have hm : m id = some ⟨re, sz, rn, f, st, false⟩ := hm
                split
                · rename_i c1 c2 c3
                  intro hp hd
                  have hd' := hd rfl
                  obtain ⟨hb, hk⟩ := hp _ rfl
                  have c3' : st ≤ 1 := by
                    have : apOK (some ⟨re, sz, rn, f, st, false⟩) = true := by rw [← hm]; exact c3
                    exact Nat.le_of_ble_eq_true this
                  exact ⟨(append_sound M hd' hu ge hts0' hnews h2).2 id n ⟨re, sz, rn, f, st, false⟩ _ hm (Nat.eq_of_beq_eq_true c1) (Nat.eq_of_beq_eq_true c2) c3' rfl h1 hb hk, fun b hb => by cases hb⟩
                · trivial
              · trivial
            · trivial
          · trivial
        · trivial
      · trivial
    · trivial
  · trivial
end Go.Proofs.Ytbhbjmneglkgnaa.AI
