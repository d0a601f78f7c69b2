/- From the evaluator's region to the model's. Conditions: none. -/
import Derived.Test.YtbhbjmneglkgnaaAiAny
namespace Go.Proofs.Ytbhbjmneglkgnaa.AI
open Go Go.RowKit

variable {P : Program} {E : Env} {N B : Nat} {w0 : World} {I0 : Nat → Nat → Prop}

/-- The operand that names an operation's address. -/
def adr (o : Oper) : Option Operand := match o.op with
  | .store _ x _ => some x
  | .load _ x => some x
  | .indexAddr _ x _ => some x
  | _ => none
def idOf : AV → Option Nat
  | .own id _ => some id
  | .loc id _ => some id
  | .elt id _ _ _ => some id
  | _ => none
/-- An operation that looks at the row of its address alone, and makes none. -/
def rowOp : Op → Bool
  | .load _ _ => true
  | .indexAddr _ _ _ => true
  | _ => false
/-- A marked store goes to a row of 'S', a marked operation that looks at a row to none of these. -/
def Cnd (S : Nat → Bool) (b : Bool) (o : Oper) (t : Nat → AV) : Prop :=
  b = true → ∀ x id, adr o = some x → idOf (evO t x) = some id → S id = isStore o.op
structure GStepC (E : Env) (S : Nat → Bool) (b : Bool) (ops : List Oper) (o : Oper) (σ σ' : St) : Prop where
  s : GStep E ops o σ σ'
  c : Cnd S b o σ.t

def StepI (E : Env) (S mk : Nat → Bool) (ops : Array Oper) (i : Nat) (σ σ' : St) : Prop :=
  match ops[i]? with
  | none => σ' = σ
  | some o => GStepC E S (mk i) ops.toList o σ σ'

/-- Whatever order is picked from here on. -/
def AnyA (E : Env) (S mk : Nat → Bool) (N B : Nat) (w0 : World) (I0 : Nat → Nat → Prop) (ops : Array Oper) (R : St → Prop) : Nat → Array Bool → St → Prop
  | 0, listed, σ => Region.ready .any ops listed = [] ∧ R σ
  | fuel + 1, listed, σ => (Region.ready .any ops listed = [] → R σ) ∧
    ∀ i ∈ Region.ready .any ops listed, (∃ a w, Rel E N B w0 I0 σ a w) → ∃ σ', StepI E S mk ops i σ σ' ∧ AnyA E S mk N B w0 I0 ops R fuel (listed.setIfInBounds i true) σ'

/-- No temporary is written beyond the frame. -/
def DstOK (N : Nat) (ops : Array Oper) : Prop := ∀ (i : Nat) (o : Oper), ops[i]? = some o → ∀ d, o.dst = some d → d < N

theorem anyA_sound (h : TabOK P E) (sp : SpecOK P E) {S mk : Nat → Bool} {ops : Array Oper} (hd : DstOK N ops) {R : St → Prop} {Q : Exit → Act → World → Prop} (hQ : ∀ σ a w, R σ → Rel E N B w0 I0 σ a w → Q .normal a w) :
    ∀ (fuel : Nat) (listed : Array Bool) (σ : St) (a : Act) (w : World), AnyA E S mk N B w0 I0 ops R fuel listed σ → Rel E N B w0 I0 σ a w → wpAny P .any ops Q fuel listed a w
  | 0, _, σ, a, w, H, hr => ⟨H.1, hQ σ a w H.2 hr⟩
  | fuel + 1, listed, σ, a, w, H, hr => by
    refine ⟨fun h0 => hQ σ a w (H.1 h0) hr, fun i hi => ?_⟩
    obtain ⟨σ', hs, H'⟩ := H.2 i hi ⟨a, w, hr⟩
    unfold StepI at hs
    cases ho : ops[i]? with
    | none =>
      rw [ho] at hs
      simp only at hs
      subst hs
      simp only [wpOp, ho]
      exact anyA_sound h sp hd hQ fuel _ _ _ _ H' hr
    | some o =>
      rw [ho] at hs
      exact gstep_wp h sp ho hs.s hr (hd i o ho) fun a' w' hr' => anyA_sound h sp hd hQ fuel _ _ _ _ H' hr'

theorem gstep0_of {ops : List Oper} {o : Oper} {σ σ' : St} (h : GStep E ops o σ σ') (hs : isStore o.op = false) : GStep0 E ops o σ σ' := by
  rcases h with h | ⟨_, _, t, x, y, id, r, hop, _⟩
  · exact h
  · rw [hop] at hs; cases hs

/-- An operation that looks at no row, and makes none. -/
def pureOp : Op → Bool
  | .move _ => true
  | .assign _ => true
  | .extract _ _ => true
  | .fieldAddr _ _ _ => true
  | .binOp _ _ _ _ _ => true
  | .pick _ _ _ => true
  | .build _ _ => true
  | .unOp _ _ _ => true
  | .convert _ _ _ => true
  | .call c => match c.callee with
    | .builtin .max => true
    | .builtin .min => true
    | .builtin .len => true
    | _ => false
  | _ => false
theorem pure_aop {op : Op} (hp : pureOp op = true) (d : Nat) (ev : Operand → AV) (m m' : Nat → Option Row) : aop E op d ev m = aop E op d ev m' := by
  cases op with
  | call c =>
    obtain ⟨callee, args, ats⟩ := c
    cases callee with
    | builtin b => cases b <;> first
      | rfl
      | cases hp
    | _ => cases hp
  | unOp u _ _ => cases u <;> rfl
  | _ => first
    | rfl
    | cases hp
theorem pure_prod {op : Op} (hp : pureOp op = true) {d : Nat} {ev : Operand → AV} {m : Nat → Option Row} {v : AV} {new : Option Row} {fz : Nat → Nat → Nat} (h : prodR (aop E op d ev m) v new fz) : new = none ∧ fz = fz0 := by
  have key : ∀ p v k n f, aop E op d ev m ≠ .eff p v k n f := by
    intro p v k n f
    cases op with
    | move _ => intro h; simp only [aop] at h; cases h
    | assign _ => intro h; simp only [aop] at h; cases h
    | extract _ _ => intro h; simp only [aop] at h; (repeat' (split at h)) <;> cases h
    | fieldAddr _ _ _ => intro h; simp only [aop] at h; (repeat' (split at h)) <;> cases h
    | binOp _ _ _ _ _ => intro h; simp only [aop, abin] at h; (repeat' (split at h)) <;> cases h
    | pick _ _ _ => intro h; simp only [aop] at h; (repeat' (split at h)) <;> cases h
    | build _ _ => intro h; simp only [aop] at h; (repeat' (split at h)) <;> cases h
    | unOp u _ _ => intro h; cases u <;> simp only [aop] at h <;> first
      | cases h
      | (split at h <;> cases h)
    | convert _ _ _ => intro h; simp only [aop] at h; (repeat' (split at h)) <;> cases h
    | call c =>
      obtain ⟨callee, args, ats⟩ := c
      cases callee with
      | builtin b => cases b <;> first
        | (intro h; simp only [aop, acall] at h; (repeat' (split at h)) <;> cases h; done)
        | cases hp
      | _ => cases hp
    | _ => cases hp
  generalize aop E op d ev m = r at h key
  cases r with
  | no => exact h.elim
  | val v' => exact h.2
  | valc p v' => exact h.2.2
  | eff p v' k n f => exact absurd rfl (key _ _ _ _ _)
theorem pure_step {ops : Array Oper} {o : Oper} {σ σ' : St} (hp : pureOp o.op = true) (h : GStep0 E ops.toList o σ σ') :
    ∃ v, σ' = appE o.dst σ v none fz0 ∧ ∀ m', GStep0 E ops.toList o ⟨σ.t, m'⟩ (appE o.dst ⟨σ.t, m'⟩ v none fz0) := by
  obtain ⟨v, new, fz, hpr, hn, rfl⟩ := h
  rcases hpr with ⟨h1, h2, h3⟩ | ⟨h1, rfl, rfl, rfl⟩
  · obtain ⟨rfl, rfl⟩ := pure_prod hp h3
    refine ⟨v, rfl, fun m' => ⟨v, none, fz0, .inl ⟨h1, h2, ?_⟩, (fun h => by cases h), rfl⟩⟩
    rw [pure_aop hp _ _ m' σ.m]
    exact h3
  · exact ⟨_, rfl, fun m' => ⟨_, none, fz0, .inr ⟨h1, rfl, rfl, rfl⟩, (fun h => by cases h), rfl⟩⟩
theorem appE_pure (dst : Option Nat) (σ : St) (v : AV) : (appE dst σ v none fz0).m = σ.m := by
  cases dst with
  | none => exact effM_fz0 σ.m 0
  | some d => exact effM_fz0 σ.m d
theorem appE_t (dst : Option Nat) (t : Nat → AV) (m m' : Nat → Option Row) (v : AV) : (appE dst ⟨t, m⟩ v none fz0).t = (appE dst ⟨t, m'⟩ v none fz0).t := by
  cases dst <;> rfl
/-- A store and an operation that looks at no row: the store first. -/
theorem comm_store_first {ops : Array Oper} {oi oj : Oper} {σ σi σij : St} (hap : oi.apart ops oj = true) (hp : pureOp oi.op = true) (hi : GStep0 E ops.toList oi σ σi) (hj : GStep1 E ops.toList oj σi σij) :
    ∃ σj, GStep1 E ops.toList oj σ σj ∧ GStep0 E ops.toList oi σj σij := by
  obtain ⟨ap1, ap2, ap3⟩ := Oper.apart_spec hap
  obtain ⟨v, rfl, hall⟩ := pure_step hp hi
  obtain ⟨hw, hdn, t, x, y, id, r, hop, hs, rfl⟩ := hj
  have ev : ∀ z ∈ oj.op.operands, evO (appE oi.dst σ v none fz0).t z = evO σ.t z := fun z hz => evO_put (ops := ops) ap1 z hz
  have ex := ev x (by rw [hop]; simp [Op.operands])
  have ey := ev y (by rw [hop]; simp [Op.operands])
  rw [ex, ey, appE_pure] at hs
  refine ⟨⟨σ.t, setM σ.m id r⟩, ⟨by rw [← hw]; exact (wantedA_put (ops := ops) ap1).symm, hdn, t, x, y, id, r, hop, hs, rfl⟩, ?_⟩
  have := hall (setM σ.m id r)
  have e : appE oi.dst ⟨σ.t, setM σ.m id r⟩ v none fz0 = ⟨(appE oi.dst σ v none fz0).t, setM (appE oi.dst σ v none fz0).m id r⟩ := by
    rw [appE_pure]
    have h1 := appE_pure oi.dst ⟨σ.t, setM σ.m id r⟩ v
    have h2 := appE_t oi.dst σ.t (setM σ.m id r) σ.m v
    generalize appE oi.dst ⟨σ.t, setM σ.m id r⟩ v none fz0 = A at h1 h2
    obtain ⟨At, Am⟩ := A
    simp only at h1 h2
    rw [h1, h2]
  rw [← e]
  exact this
theorem comm_store_last {ops : Array Oper} {oi oj : Oper} {σ σi σij : St} (hap : oi.apart ops oj = true) (hp : pureOp oj.op = true) (hi : GStep1 E ops.toList oi σ σi) (hj : GStep0 E ops.toList oj σi σij) :
    ∃ σj, GStep0 E ops.toList oj σ σj ∧ GStep1 E ops.toList oi σj σij := by
  obtain ⟨ap1, ap2, ap3⟩ := Oper.apart_spec hap
  obtain ⟨hw, hdn, t, x, y, id, r, hop, hs, rfl⟩ := hi
  obtain ⟨v, rfl, hall⟩ := pure_step hp hj
  have ev : ∀ z ∈ oi.op.operands, evO (appE oj.dst σ v none fz0).t z = evO σ.t z := fun z hz => evO_put (ops := ops) ap3 z hz
  have ex := ev x (by rw [hop]; simp [Op.operands])
  have ey := ev y (by rw [hop]; simp [Op.operands])
  refine ⟨appE oj.dst σ v none fz0, hall σ.m, by rw [← hw]; exact wantedA_put (ops := ops) ap3, hdn, t, x, y, id, r, hop, by rw [ex, ey, appE_pure]; exact hs, ?_⟩
  rw [appE_pure]
  have h1 := appE_pure oj.dst ⟨σ.t, setM σ.m id r⟩ v
  have h2 := appE_t oj.dst σ.t (setM σ.m id r) σ.m v
  generalize appE oj.dst ⟨σ.t, setM σ.m id r⟩ v none fz0 = A at h1 h2
  obtain ⟨At, Am⟩ := A
  simp only at h1 h2
  rw [h1, h2]
theorem gstep1_of {ops : List Oper} {o : Oper} {σ σ' : St} (h : GStep E ops o σ σ') (hs : isStore o.op = true) (hg : o.guard.isNone = true) : GStep1 E ops o σ σ' := by
  rcases h with ⟨v, new, fz, hp, hn, rfl⟩ | h
  · rcases hp with ⟨_, h2, _⟩ | ⟨h1, rfl, rfl, rfl⟩
    · rw [hs] at h2; cases h2
    · rw [Option.isNone_iff_eq_none] at hg
      simp [wantedA, hg] at h1
  · exact h
theorem row_noStore {op : Op} (h : rowOp op = true) : isStore op = false := by
  cases op <;> first
    | rfl
    | cases h
theorem row_aop {o : Oper} {x : Operand} (hp : rowOp o.op = true) (hx : adr o = some x) (d : Nat) (ev : Operand → AV) {m m' : Nat → Option Row} (h : rowOf m (ev x) = rowOf m' (ev x)) : aop E o.op d ev m = aop E o.op d ev m' := by
  unfold adr at hx
  cases ho : o.op with
  | load t y =>
    rw [ho] at hx
    injection hx with hx
    subst hx
    simp only [aop, h]
  | indexAddr t y z =>
    rw [ho] at hx
    injection hx with hx
    subst hx
    simp only [aop, h]
  | _ => rw [ho] at hp; cases hp
theorem row_prod {op : Op} (hp : rowOp op = true) {d : Nat} {ev : Operand → AV} {m : Nat → Option Row} {v : AV} {new : Option Row} {fz : Nat → Nat → Nat} (h : prodR (aop E op d ev m) v new fz) : new = none ∧ fz = fz0 := by
  have key : ∀ p v k n f, aop E op d ev m ≠ .eff p v k n f := by
    intro p v k n f
    cases op with
    | load _ _ => intro h; simp only [aop, aload] at h; (repeat' (split at h)) <;> cases h
    | indexAddr _ _ _ => intro h; simp only [aop, aindex] at h; (repeat' (split at h)) <;> cases h
    | _ => cases hp
  generalize aop E op d ev m = r at h key
  cases r with
  | no => exact h.elim
  | val v' => exact h.2
  | valc p v' => exact h.2.2
  | eff p v' k n f => exact absurd rfl (key _ _ _ _ _)
theorem row_adr {o : Oper} (hp : rowOp o.op = true) : ∃ x, adr o = some x := by
  unfold adr
  cases ho : o.op with
  | load t y => exact ⟨_, rfl⟩
  | indexAddr t y z => exact ⟨_, rfl⟩
  | _ => rw [ho] at hp; cases hp
theorem row_step {ops : Array Oper} {o : Oper} {σ σ' : St} (hp : rowOp o.op = true) (h : GStep0 E ops.toList o σ σ') :
    ∃ v, σ' = appE o.dst σ v none fz0 ∧ ∀ m', (∀ x, adr o = some x → rowOf m' (evO σ.t x) = rowOf σ.m (evO σ.t x)) → GStep0 E ops.toList o ⟨σ.t, m'⟩ (appE o.dst ⟨σ.t, m'⟩ v none fz0) := by
  obtain ⟨v, new, fz, hpr, hn, rfl⟩ := h
  rcases hpr with ⟨h1, h2, h3⟩ | ⟨h1, rfl, rfl, rfl⟩
  · obtain ⟨rfl, rfl⟩ := row_prod hp h3
    obtain ⟨x, hx⟩ := row_adr hp
    refine ⟨v, rfl, fun m' hm => ⟨v, none, fz0, .inl ⟨h1, h2, ?_⟩, (fun h => by cases h), rfl⟩⟩
    rw [row_aop hp hx _ _ (hm x hx)]
    exact h3
  · exact ⟨_, rfl, fun m' _ => ⟨_, none, fz0, .inr ⟨h1, rfl, rfl, rfl⟩, (fun h => by cases h), rfl⟩⟩
theorem rowOf_set {m : Nat → Option Row} {id : Nat} {r : Row} {v : AV} (h : idOf v ≠ some id) : rowOf (setM m id r) v = rowOf m v := by
  cases v <;> first
    | rfl
    | (simp only [idOf, ne_eq, Option.some.injEq] at h
       simp only [rowOf, setM]
       split
       · rename_i hb; exact absurd (Nat.eq_of_beq_eq_true hb) h
       · rfl)
theorem sop_id {t : TypeId} {x y : AV} {m : Nat → Option Row} {id : Nat} {r : Row} (h : sop E t x y m = some (id, r)) : idOf x = some id := by
  unfold sop at h
  split at h
  · split at h
    · split at h
      · split at h
        · cases h
        · injection h with h; injection h with h _; rw [h]; rfl
      · cases h
    · cases h
  · split at h
    · split at h
      · split at h
        · cases h
        · injection h with h; injection h with h _; rw [h]; rfl
      · cases h
    · cases h
  · cases h
theorem comm_row_first {ops : Array Oper} {oi oj : Oper} {σ σi σij : St} {S : Nat → Bool} (hap : oi.apart ops oj = true) (hp : rowOp oi.op = true) (hi : GStep0 E ops.toList oi σ σi) (hj : GStep1 E ops.toList oj σi σij)
    (ci : Cnd S true oi σ.t) (cj : Cnd S true oj σ.t) :
    ∃ σj, GStep1 E ops.toList oj σ σj ∧ GStep0 E ops.toList oi σj σij := by
  obtain ⟨ap1, ap2, ap3⟩ := Oper.apart_spec hap
  obtain ⟨v, rfl, hall⟩ := row_step hp hi
  obtain ⟨hw, hdn, t, x, y, id, r, hop, hs, rfl⟩ := hj
  have ev : ∀ z ∈ oj.op.operands, evO (appE oi.dst σ v none fz0).t z = evO σ.t z := fun z hz => evO_put (ops := ops) ap1 z hz
  have ex := ev x (by rw [hop]; simp [Op.operands])
  have ey := ev y (by rw [hop]; simp [Op.operands])
  rw [ex, ey, appE_pure] at hs
  have hS := cj rfl x id (by unfold adr; rw [hop]) (sop_id hs)
  refine ⟨⟨σ.t, setM σ.m id r⟩, ⟨by rw [← hw]; exact (wantedA_put (ops := ops) ap1).symm, hdn, t, x, y, id, r, hop, hs, rfl⟩, ?_⟩
  have := hall (setM σ.m id r) (fun z hz => rowOf_set fun e => by
    have := ci rfl z id hz e
    rw [hS, hop, row_noStore hp] at this
    cases this)
  have e : appE oi.dst ⟨σ.t, setM σ.m id r⟩ v none fz0 = ⟨(appE oi.dst σ v none fz0).t, setM (appE oi.dst σ v none fz0).m id r⟩ := by
    rw [appE_pure]
    have h1 := appE_pure oi.dst ⟨σ.t, setM σ.m id r⟩ v
    have h2 := appE_t oi.dst σ.t (setM σ.m id r) σ.m v
    generalize appE oi.dst ⟨σ.t, setM σ.m id r⟩ v none fz0 = A at h1 h2
    obtain ⟨At, Am⟩ := A
    simp only at h1 h2
    rw [h1, h2]
  rw [← e]
  exact this
theorem comm_row_last {ops : Array Oper} {oi oj : Oper} {σ σi σij : St} {S : Nat → Bool} (hap : oi.apart ops oj = true) (hp : rowOp oj.op = true) (hi : GStep1 E ops.toList oi σ σi) (hj : GStep0 E ops.toList oj σi σij)
    (ci : Cnd S true oi σ.t) (cj : Cnd S true oj σi.t) :
    ∃ σj, GStep0 E ops.toList oj σ σj ∧ GStep1 E ops.toList oi σj σij := by
  obtain ⟨ap1, ap2, ap3⟩ := Oper.apart_spec hap
  obtain ⟨hw, hdn, t, x, y, id, r, hop, hs, rfl⟩ := hi
  obtain ⟨v, rfl, hall⟩ := row_step hp hj
  have hS := ci rfl x id (by unfold adr; rw [hop]) (sop_id hs)
  have hall := hall σ.m (fun z hz => (rowOf_set fun e => by
    have := cj rfl z id hz e
    rw [hS, hop, row_noStore hp] at this
    cases this).symm)
  have ev : ∀ z ∈ oi.op.operands, evO (appE oj.dst σ v none fz0).t z = evO σ.t z := fun z hz => evO_put (ops := ops) ap3 z hz
  have ex := ev x (by rw [hop]; simp [Op.operands])
  have ey := ev y (by rw [hop]; simp [Op.operands])
  refine ⟨appE oj.dst σ v none fz0, hall, by rw [← hw]; exact wantedA_put (ops := ops) ap3, hdn, t, x, y, id, r, hop, by rw [ex, ey, appE_pure]; exact hs, ?_⟩
  rw [appE_pure]
  have h1 := appE_pure oj.dst ⟨σ.t, setM σ.m id r⟩ v
  have h2 := appE_t oj.dst σ.t (setM σ.m id r) σ.m v
  generalize appE oj.dst ⟨σ.t, setM σ.m id r⟩ v none fz0 = A at h1 h2
  obtain ⟨At, Am⟩ := A
  simp only at h1 h2
  rw [h1, h2]
/-- Two operations that may change places; 'bi', 'bj': are they marked? -/
def mayPair (ops : Array Oper) (bi bj : Bool) (oi oj : Oper) : Bool := oi.apart ops oj && ((!isStore oi.op && !isStore oj.op) || (isStore oi.op && oi.guard.isNone && pureOp oj.op) || (pureOp oi.op && isStore oj.op && oj.guard.isNone)
  || (bi && bj && isStore oi.op && oi.guard.isNone && rowOp oj.op) || (bi && bj && rowOp oi.op && isStore oj.op && oj.guard.isNone))
theorem pure_noStore {op : Op} (h : pureOp op = true) : isStore op = false := by
  cases op <;> first
    | rfl
    | cases h
theorem gstep_ev {ops : Array Oper} {oi oj : Oper} {σ σi : St} (hap : ∀ d, oi.dst = some d → d ∉ oj.looksAt ops) (h : GStep E ops.toList oi σ σi) (x : Operand) (hx : x ∈ oj.op.operands) : evO σi.t x = evO σ.t x := by
  rcases h with ⟨v, new, fz, _, _, rfl⟩ | ⟨_, _, t, y, z, id, r, _, _, rfl⟩
  · exact evO_put (ops := ops) hap x hx
  · cases x <;> rfl
theorem adr_mem {o : Oper} {x : Operand} (h : adr o = some x) : x ∈ o.op.operands := by
  unfold adr at h
  split at h <;> first
    | (rename_i ho; injection h with h; subst h; rw [ho]; simp [Op.operands])
    | cases h
theorem cnd_ev {S : Nat → Bool} {b : Bool} {o : Oper} {t t' : Nat → AV} (e : ∀ x ∈ o.op.operands, evO t x = evO t' x) (h : Cnd S b o t) : Cnd S b o t' := by
  intro hb x id hx hid
  exact h hb x id hx (by rw [e x (adr_mem hx)]; exact hid)
theorem mayPair_comm {ops : Array Oper} {oi oj : Oper} {σ σi σij : St} {a : Act} {w : World} {S : Nat → Bool} {bi bj : Bool} (hr : Rel E N B w0 I0 σ a w) (h : mayPair ops bi bj oi oj = true) (hi : GStepC E S bi ops.toList oi σ σi) (hj : GStepC E S bj ops.toList oj σi σij) :
    ∃ σj, GStepC E S bj ops.toList oj σ σj ∧ GStepC E S bi ops.toList oi σj σij := by
  obtain ⟨hi, ci⟩ := hi
  obtain ⟨hj, cj⟩ := hj
  simp only [mayPair, Bool.and_eq_true, Bool.or_eq_true, Bool.not_eq_true'] at h
  obtain ⟨ap, h⟩ := h
  obtain ⟨ap1, ap2, ap3⟩ := Oper.apart_spec ap
  have cj' : Cnd S bj oj σ.t := cnd_ev (gstep_ev ap1 hi) cj
  suffices h : ∃ σj, GStep E ops.toList oj σ σj ∧ GStep E ops.toList oi σj σij by
    obtain ⟨σj, h1, h2⟩ := h
    exact ⟨σj, ⟨h1, cj'⟩, h2, cnd_ev (fun x hx => (gstep_ev ap3 h1 x hx).symm) ci⟩
  rcases h with (((⟨h1, h2⟩ | ⟨⟨h1, hg⟩, h2⟩) | ⟨⟨h1, h2⟩, hg⟩) | ⟨⟨⟨⟨rfl, rfl⟩, h1⟩, hg⟩, h2⟩) | ⟨⟨⟨⟨rfl, rfl⟩, h1⟩, h2⟩, hg⟩
  · obtain ⟨σj, a1, a2⟩ := gstep_comm hr ap (gstep0_of hi h1) (gstep0_of hj h2)
    exact ⟨σj, .inl a1, .inl a2⟩
  · obtain ⟨σj, a1, a2⟩ := comm_store_last ap h2 (gstep1_of hi h1 hg) (gstep0_of hj (pure_noStore h2))
    exact ⟨σj, .inl a1, .inr a2⟩
  · obtain ⟨σj, a1, a2⟩ := comm_store_first ap h1 (gstep0_of hi (pure_noStore h1)) (gstep1_of hj h2 hg)
    exact ⟨σj, .inr a1, .inl a2⟩
  · obtain ⟨σj, a1, a2⟩ := comm_row_last ap h2 (gstep1_of hi h1 hg) (gstep0_of hj (row_noStore h2)) ci cj
    exact ⟨σj, .inl a1, .inr a2⟩
  · obtain ⟨σj, a1, a2⟩ := comm_row_first ap h1 (gstep0_of hi (row_noStore h1)) (gstep1_of hj h2 hg) ci cj'
    exact ⟨σj, .inr a1, .inl a2⟩

theorem anyA_first (h : TabOK P E) (sp : SpecOK P E) {S mk : Nat → Bool} {ops : Array Oper} (hd : DstOK N ops) {R : St → Prop} {i : Nat} {oi : Oper} (hi : ops[i]? = some oi) {D : Nat → Bool}
    (hD : ∀ j oj, ops[j]? = some oj → D j = true → ∃ e ∈ oj.after, Region.binds .any e = true ∧ (e.on = i ∨ D e.on = true)) :
    ∀ (fuel : Nat) (listed : Array Bool) (σ σi : St),
      (∀ q, listed.getD q false = true → D q = false) →
      (∀ j oj, ops[j]? = some oj → j ≠ i → listed.getD j true = false → D j = false → mayPair ops (mk i) (mk j) oi oj = true) →
      i ∈ Region.ready .any ops listed → GStepC E S (mk i) ops.toList oi σ σi → AnyA E S mk N B w0 I0 ops R fuel (listed.setIfInBounds i true) σi → AnyA E S mk N B w0 I0 ops R (fuel + 1) listed σ := by
  intro fuel
  induction fuel with
  | zero =>
    intro listed σ σi _ _ hr hy H
    refine ⟨fun h => (by rw [h] at hr; cases hr), fun j hj _ => ?_⟩
    by_cases hji : j = i
    · subst hji
      exact ⟨σi, by unfold StepI; rw [hi]; exact hy, H⟩
    · have := ready_mono hj hji
      rw [H.1] at this
      cases this
  | succ fuel ih =>
    intro listed σ σi hl hfree hr hy H
    refine ⟨fun h => (by rw [h] at hr; cases hr), fun j hj hinh => ?_⟩
    by_cases hji : j = i
    · subst hji
      exact ⟨σi, by unfold StepI; rw [hi]; exact hy, H⟩
    · obtain ⟨a, w, hrel⟩ := hinh
      have hinh' := gstep_inh h sp hy.s hrel (hd i oi hi)
      obtain ⟨σij, hs, H'⟩ := H.2 j (ready_mono hj hji) hinh'
      obtain ⟨hjun, oj, hoj, hall⟩ := mem_ready.1 hj
      have hDj : D j = false := by
        cases hb : D j with
        | false => rfl
        | true =>
          obtain ⟨e, he, hbe, h1⟩ := hD j oj hoj hb
          have h2 := hall e he hbe
          rcases h1 with h1 | h1
          · have h0 := (mem_ready.1 hr).1
            rw [h1] at h2
            rcases Nat.lt_or_ge i listed.size with h' | h'
            · simp [h'] at h0 h2; rw [h0] at h2; cases h2
            · simp [Array.getElem?_eq_none h'] at h2
          · rw [hl _ h2] at h1; cases h1
      have mp := hfree j oj hoj hji hjun hDj
      unfold StepI at hs
      rw [hoj] at hs
      obtain ⟨σj, hj1, hj2⟩ := mayPair_comm hrel mp hy hs
      refine ⟨σj, by unfold StepI; rw [hoj]; exact hj1, ?_⟩
      refine ih (listed.setIfInBounds j true) σj σij (fun q hq => ?_) (fun k ok hk hki hun hno => ?_) (ready_mono hr (Ne.symm hji)) hj2 ?_
      · by_cases hqj : q = j
        · rw [hqj]; exact hDj
        · rw [getD_set_ne false (Ne.symm hqj)] at hq
          exact hl q hq
      · refine hfree k ok hk hki ?_ hno
        by_cases hjk : j = k
        · subst hjk; exact hjun
        · rw [getD_set_ne true hjk] at hun; exact hun
      · rw [Array.setIfInBounds_comm _ _ hji]
        exact H'

/-- What waits for k. -/
def waitsL (ops : Array Oper) (k : Nat) : Array Bool :=
  (List.range ops.size).foldl (fun acc j => acc.push (match ops[j]? with
    | some oj => oj.after.any fun e => Region.binds .any e && (e.on == k || acc.getD e.on false)
    | none => false)) #[]
/-- Every operation that is not listed, and does not wait for k, may change places with k. -/
def freeE (ops : Array Oper) (mk : Nat → Bool) (listed : Array Bool) (k : Nat) : Bool :=
  match ops[k]? with
  | none => false
  | some ok => let D := waitsL ops k
    ((List.range ops.size).all fun j => match ops[j]? with
    | none => true
    | some oj => (!D.getD j false || oj.after.any fun e => Region.binds .any e && (e.on == k || D.getD e.on false)) &&
        (j == k || listed.getD j true || D.getD j false || mayPair ops (mk k) (mk j) ok oj)) && (List.range D.size).all fun q => !listed.getD q false || !D.getD q false
/-- The marks: the stores, and what looks at a row and waits for no store, nor the store for it. -/
def mkE (ops : Array Oper) : Array Bool :=
  (List.range ops.size).foldl (fun acc j => acc.push (match ops[j]? with
    | some oj => isStore oj.op || (rowOp oj.op && let Wj := waitsL ops j
      (List.range ops.size).any fun k => match ops[k]? with
        | some ok => isStore ok.op && !Wj.getD k false && !(waitsL ops k).getD j false
        | none => false)
    | none => false)) #[]
def lexFromE (ops : Array Oper) (mk : Nat → Bool) : Nat → Nat → Array Bool → Bool
  | 0, _, listed => (Region.ready .any ops listed).isEmpty
  | fuel + 1, k, listed => (Region.ready .any ops listed).contains k && freeE ops mk listed k && lexFromE ops mk fuel (k + 1) (listed.setIfInBounds k true)
def mkF (ops : Array Oper) (j : Nat) : Bool := (mkE ops).getD j false
def lexE (ops : Array Oper) : Bool := let M := mkE ops
  lexFromE ops (fun j => M.getD j false) ops.size 0 (Array.replicate ops.size false)

theorem freeE_spec {ops : Array Oper} {mk : Nat → Bool} {listed : Array Bool} {k : Nat} {ok : Oper} (hk : ops[k]? = some ok) (h : freeE ops mk listed k = true) : ∃ D : Nat → Bool,
    (∀ j oj, ops[j]? = some oj → D j = true → ∃ e ∈ oj.after, Region.binds .any e = true ∧ (e.on = k ∨ D e.on = true)) ∧ (∀ q, listed.getD q false = true → D q = false) ∧
    ∀ j oj, ops[j]? = some oj → j ≠ k → listed.getD j true = false → D j = false → mayPair ops (mk k) (mk j) ok oj = true := by
  unfold freeE at h
  rw [hk] at h
  simp only [List.all_eq_true, List.mem_range, Bool.and_eq_true] at h
  obtain ⟨h, h'⟩ := h
  refine ⟨fun j => (waitsL ops k).getD j false, fun j oj hj hD => ?_, fun q hq => ?_, fun j oj hj hne hl hD => ?_⟩
  · have := (h j (Array.getElem?_eq_some_iff.1 hj).1)
    rw [hj] at this
    simp only [Bool.and_eq_true] at this
    have := this.1
    have hD : (waitsL ops k).getD j false = true := hD
    rw [hD] at this
    simp only [Bool.not_true, Bool.false_or, Array.any_eq_true, Bool.and_eq_true, Bool.or_eq_true, beq_iff_eq] at this
    obtain ⟨q, hq, hb, he⟩ := this
    exact ⟨_, Array.getElem_mem hq, hb, he⟩
  · rcases Nat.lt_or_ge q (waitsL ops k).size with hs | hs
    · have := h' q hs
      rw [hq] at this
      simpa using this
    · simp [Array.getD_eq_getD_getElem?, Array.getElem?_eq_none hs]
  · have := (h j (Array.getElem?_eq_some_iff.1 hj).1)
    rw [hj] at this
    simp only [Bool.and_eq_true, Bool.or_eq_true, beq_iff_eq] at this
    rcases this.2 with ((h1 | h1) | h1) | h1
    · exact absurd h1 hne
    · rw [hl] at h1; cases h1
    · have hD : (waitsL ops k).getD j false = false := hD
      rw [hD] at h1; cases h1
    · exact h1

/-- The lexical walk of a region in the evaluator's states. -/
def GSteps (E : Env) (ops : List Oper) : List Oper → St → St → Prop
  | [], σ, σ' => σ' = σ
  | o :: r, σ, σ' => ∃ σ1, GStep E ops o σ σ1 ∧ GSteps E ops r σ1 σ'

/-- The walk with the conditions on the rows. -/
def GStepsC (E : Env) (S mk : Nat → Bool) (ops : List Oper) : Nat → List Oper → St → St → Prop
  | _, [], σ, σ' => σ' = σ
  | k, o :: r, σ, σ' => ∃ σ1, GStepC E S (mk k) ops o σ σ1 ∧ GStepsC E S mk ops (k + 1) r σ1 σ'

/-- No address is overwritten. -/
def lateOK : List Oper → Bool
  | [] => true
  | o :: r => (match adr o with
    | some (.tmp t) => (o :: r).all fun o' => match o'.dst with | some d => !Nat.beq t d | none => true
    | _ => true) && lateOK r
theorem gstep_t {ops : List Oper} {o : Oper} {σ σ' : St} {t : Nat} (h : GStep E ops o σ σ') (hd : (match o.dst with | some d => !Nat.beq t d | none => true) = true) : σ'.t t = σ.t t := by
  rcases h with ⟨v, new, fz, _, _, rfl⟩ | ⟨_, _, _, y, z, id, r, _, _, rfl⟩
  · cases hdd : o.dst with
    | none => rfl
    | some d =>
      rw [hdd] at hd
      simp only [Bool.not_eq_true'] at hd
      simp only [appE, St.eff, hd]
  · rfl
theorem gsteps_t {ops : List Oper} {t : Nat} : ∀ {l : List Oper} {σ σ' : St}, GSteps E ops l σ σ' → (l.all fun o' => match o'.dst with | some d => !Nat.beq t d | none => true) = true → σ'.t t = σ.t t
  | [], σ, σ', h, _ => by simp only [GSteps] at h; rw [h]
  | o :: r, σ, σ', h, hd => by
    obtain ⟨σ1, h1, h2⟩ := h
    simp only [List.all_cons, Bool.and_eq_true] at hd
    rw [gsteps_t h2 hd.2, gstep_t h1 hd.1]
theorem stepsC_of {S mk : Nat → Bool} {ops : List Oper} : ∀ (l : List Oper) (k : Nat) (σ σ' : St), lateOK l = true → GSteps E ops l σ σ' → (∀ j o, l[j]? = some o → Cnd S (mk (k + j)) o σ'.t) → GStepsC E S mk ops k l σ σ'
  | [], _, _, _, _, h, _ => h
  | o :: r, k, σ, σ', hl, h, hc => by
    have h' := h
    obtain ⟨σ1, h1, h2⟩ := h
    simp only [lateOK, Bool.and_eq_true] at hl
    refine ⟨σ1, ⟨h1, ?_⟩, stepsC_of r (k + 1) σ1 σ' hl.2 h2 fun j o' hj => by have := hc (j + 1) o' (by simpa using hj); rwa [show k + (j + 1) = k + 1 + j by omega] at this⟩
    intro hb x id hx hid
    refine hc 0 o (by simp) hb x id hx ?_
    have e : evO σ'.t x = evO σ.t x := by
      cases x with
      | tmp t =>
        have hl := hl.1
        rw [hx] at hl
        exact gsteps_t h' hl
      | _ => rfl
    rw [e]; exact hid

/-- The rows that marked stores go to. -/
def sIds (ops : Array Oper) (mk : Nat → Bool) (t : Nat → AV) : List Nat :=
  (List.range ops.size).filterMap fun i => match ops[i]? with
    | some o => match mk i && isStore o.op, adr o with
      | true, some x => idOf (evO t x)
      | _, _ => none
    | none => none
def regOK (ops : Array Oper) (t : Nat → AV) : Bool :=
  let M := mkE ops
  let L := sIds ops (fun j => M.getD j false) t
  (List.range ops.size).all fun j => match ops[j]? with
    | some o => match M.getD j false && !isStore o.op, adr o with
      | true, some x => match idOf (evO t x) with
        | some id => !L.contains id
        | none => true
      | _, _ => true
    | none => true
theorem regOK_spec {ops : Array Oper} {t : Nat → AV} (h : regOK ops t = true) : ∀ j o, ops[j]? = some o → Cnd (fun id => (sIds ops (mkF ops) t).contains id) (mkF ops j) o t := by
  intro j o hj hb x id hx hid
  have hjs : j < ops.size := (Array.getElem?_eq_some_iff.1 hj).1
  cases hs : isStore o.op with
  | true =>
    simp only [List.contains_iff_mem]
    refine List.mem_filterMap.2 ⟨j, by simpa using hjs, ?_⟩
    rw [hj]
    simp only [hb, hs, Bool.and_self, hx]
    exact hid
  | false =>
    unfold regOK at h
    simp only [List.all_eq_true, List.mem_range] at h
    have := h j hjs
    rw [hj] at this
    have hb' : (mkE ops).getD j false = true := hb
    simp only [hb', hs, hx, hid, Bool.not_false, Bool.and_self, Bool.not_eq_true'] at this
    exact this
def hasStore : List Oper → Bool
  | [] => false
  | o :: r => match o.op with
    | .store _ _ _ => true
    | _ => hasStore r
theorem hasStore_spec : ∀ {l : List Oper}, hasStore l = false → ∀ o ∈ l, isStore o.op = false
  | [], _, _, h => by cases h
  | a :: r, h, o, ho => by
    unfold hasStore at h
    split at h
    · cases h
    · rename_i hn
      rcases List.mem_cons.1 ho with rfl | ho
      · cases hop : o.op <;> first
          | rfl
          | exact absurd hop (hn _ _ _)
      · exact hasStore_spec h o ho

theorem anyA_lex (h : TabOK P E) (sp : SpecOK P E) {S mk : Nat → Bool} {ops : Array Oper} (hd : DstOK N ops) {R : St → Prop} : ∀ (l : List Oper) (k : Nat) (listed : Array Bool) (σ σ' : St), (∀ j, l[j]? = ops[k + j]?) →
    lexFromE ops mk l.length k listed = true → GStepsC E S mk ops.toList k l σ σ' → R σ' → AnyA E S mk N B w0 I0 ops R l.length listed σ
  | [], _, _, _, _, _, hB, hs, hR => by
    simp only [GStepsC] at hs
    subst hs
    exact ⟨by simpa [lexFromE] using hB, hR⟩
  | o :: l, k, listed, σ, σ', hl, hB, hs, hR => by
    have h0 : ops[k]? = some o := by simpa using (hl 0).symm
    simp only [List.length_cons, lexFromE, Bool.and_eq_true] at hB
    obtain ⟨⟨hr, hf⟩, hB'⟩ := hB
    obtain ⟨σ1, h1, h2⟩ := hs
    obtain ⟨D, d1, d2, d3⟩ := freeE_spec h0 hf
    exact anyA_first h sp hd h0 d1 l.length listed σ σ1 d2 d3 (by simpa using hr) h1
      (anyA_lex h sp hd l (k + 1) _ σ1 σ' (fun j => by have := hl (j + 1); simpa [Nat.add_assoc, Nat.add_comm 1 j] using this) hB' h2 hR)

theorem rel_drew {σ : St} {a : Act} {w : World} (h : Rel E N B w0 I0 σ a w) : Rel E N B w0 I0 σ a { w with drawn := w.drawn + 1 } := by
  obtain ⟨ρ, I, M, ht, hs, hd⟩ := h
  have hb : Below w.heap.size w w.drew := below_drew w
  exact ⟨ρ, I, M.world (w' := w.drew) hb (fun _ _ h => h) (fun _ _ h => .inl h) (fun b k h => M.ilt b k h), fun i => Rep.mono (Ext.of_below M.ilt hb fun _ _ h => h) _ _ (ht i), hs, hd.mono (Ext.of_below M.ilt hb fun _ _ h => h) rfl⟩

theorem region_draw (h : TabOK P E) (sp : SpecOK P E) (hm : P.follows .mixedOrders = true) {ops : Array Oper} (hd : DstOK N ops) (hB : lexE ops = true) (hB' : lateOK ops.toList = true) {id : Nat} {σ σ' : St} {a : Act} {w : World} (hs : GSteps E ops.toList ops.toList σ σ') {S : Nat → Bool} (hc : ∀ j o, ops[j]? = some o → Cnd S (mkF ops j) o σ'.t)
    (hr : Rel E N B w0 I0 σ a w) {Q : Exit → Act → World → Prop} (hQ : ∀ a w, Rel E N B w0 I0 σ' a w → Q .normal a w) : (Code.region id ops true).wp P Q a w := by
  refine wp_region_any hm ?_
  have hs' := stepsC_of (mk := mkF ops) ops.toList 0 σ σ' hB' hs (fun j o hj => by rw [Nat.zero_add]; exact hc j o (by simpa using hj))
  have hA := anyA_lex (N := N) (B := B) (w0 := w0) (I0 := I0) (R := fun τ => τ = σ') h sp hd ops.toList 0 (Array.replicate ops.size false) σ σ' (by simp) (by rw [Array.length_toList]; exact hB) hs' rfl
  have := anyA_sound h sp hd (Q := Q) (fun τ a w e hr => by subst e; exact hQ a w hr) ops.toList.length (Array.replicate ops.size false) σ a { w with drawn := w.drawn + 1 } hA (rel_drew hr)
  simpa using this

theorem ops_seq (h : TabOK P E) (sp : SpecOK P E) {ops : Array Oper} (hd : DstOK N ops) {Q : Exit → Act → World → Prop} {σ' : St} (hQ : ∀ a w, Rel E N B w0 I0 σ' a w → Q .normal a w) :
    ∀ (l : List Oper) (k : Nat) (σ : St) (a : Act) (w : World), (∀ j, l[j]? = ops[k + j]?) → GSteps E ops.toList l σ σ' → Rel E N B w0 I0 σ a w → wpOps P ops Q (List.range' k l.length) a w
  | [], _, σ, a, w, _, hs, hr => by
    simp only [GSteps] at hs
    subst hs
    exact hQ a w hr
  | o :: l, k, σ, a, w, hl, hs, hr => by
    have h0 : ops[k]? = some o := by simpa using (hl 0).symm
    obtain ⟨σ1, h1, h2⟩ := hs
    simp only [List.length_cons, List.range'_succ]
    rw [wpOps_cons]
    exact gstep_wp h sp h0 h1 hr (hd k o h0) fun a' w' hr' =>
      ops_seq h sp hd hQ l (k + 1) σ1 a' w' (fun j => by have := hl (j + 1); simpa [Nat.add_assoc, Nat.add_comm 1 j] using this) h2 hr'

theorem region_seq (h : TabOK P E) (sp : SpecOK P E) {ops : Array Oper} (hd : DstOK N ops) {id : Nat} {σ σ' : St} {a : Act} {w : World} (hs : GSteps E ops.toList ops.toList σ σ')
    (hr : Rel E N B w0 I0 σ a w) {Q : Exit → Act → World → Prop} (hQ : ∀ a w, Rel E N B w0 I0 σ' a w → Q .normal a w) : (Code.region id ops false).wp P Q a w := by
  refine wp_region ?_
  have := ops_seq h sp hd hQ ops.toList 0 σ a w (by simp) hs hr
  rw [List.range_eq_range']
  simpa using this
end Go.Proofs.Ytbhbjmneglkgnaa.AI
