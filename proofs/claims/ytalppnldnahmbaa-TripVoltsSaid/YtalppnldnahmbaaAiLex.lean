/- From the evaluator's region to the model's. Conditions: none. -/
import Derived.Test.YtalppnldnahmbaaAiAny
namespace Go.Proofs.Ytalppnldnahmbaa.AI
open Go Go.RowKit

variable {P : Program} {E : Env} {N B : Nat} {w0 : World} {I0 : Nat → Nat → Prop}

def StepI (E : Env) (ops : Array Oper) (i : Nat) (σ σ' : St) : Prop :=
  match ops[i]? with
  | none => σ' = σ
  | some o => GStep E ops.toList o σ σ'

/-- Whatever order is picked from here on. -/
def AnyA (E : Env) (N B : Nat) (w0 : World) (I0 : Nat → Nat → Prop) (ops : Array Oper) (R : St → Prop) : Nat → Array Bool → St → Prop
  | 0, listed, σ => Region.ready .any ops listed = [] ∧ R σ
  | fuel + 1, listed, σ => (Region.ready .any ops listed = [] → R σ) ∧
    ∀ i ∈ Region.ready .any ops listed, (∃ a w, Rel E N B w0 I0 σ a w) → ∃ σ', StepI E ops i σ σ' ∧ AnyA E N B w0 I0 ops R fuel (listed.setIfInBounds i true) σ'

/-- No temporary is written beyond the frame. -/
def DstOK (N : Nat) (ops : Array Oper) : Prop := ∀ (i : Nat) (o : Oper), ops[i]? = some o → ∀ d, o.dst = some d → d < N

theorem anyA_sound (h : TabOK P E) (sp : SpecOK P E) {ops : Array Oper} (hd : DstOK N ops) {R : St → Prop} {Q : Exit → Act → World → Prop} (hQ : ∀ σ a w, R σ → Rel E N B w0 I0 σ a w → Q .normal a w) :
    ∀ (fuel : Nat) (listed : Array Bool) (σ : St) (a : Act) (w : World), AnyA E N B w0 I0 ops R fuel listed σ → Rel E N B w0 I0 σ a w → wpAny P .any ops Q fuel listed a w
  | 0, _, σ, a, w, H, hr => ⟨H.1, hQ σ a w H.2 hr⟩
  | fuel + 1, listed, σ, a, w, H, hr => by
    refine ⟨fun h0 => hQ σ a w (H.1 h0) hr, fun i hi => ?_⟩
    obtain ⟨σ', hs, H'⟩ := H.2 i hi ⟨a, w, hr⟩
    unfold StepI at hs
    cases ho : ops[i]? with
    | none =>
      rw [ho] at hs
      simp only at hs
      subst hs
      simp only [wpOp, ho]
      exact anyA_sound h sp hd hQ fuel _ _ _ _ H' hr
    | some o =>
      rw [ho] at hs
      exact gstep_wp h sp ho hs hr (hd i o ho) fun a' w' hr' => anyA_sound h sp hd hQ fuel _ _ _ _ H' hr'

theorem gstep0_of {ops : List Oper} {o : Oper} {σ σ' : St} (h : GStep E ops o σ σ') (hs : isStore o.op = false) : GStep0 E ops o σ σ' := by
  rcases h with h | ⟨_, _, t, x, y, id, r, hop, _⟩
  · exact h
  · rw [hop] at hs; cases hs

/-- An operation that looks at no row, and makes none. -/
def pureOp : Op → Bool
  | .move _ => true
  | .assign _ => true
  | .extract _ _ => true
  | .fieldAddr _ _ _ => true
  | .binOp _ _ _ _ _ => true
  | .pick _ _ _ => true
  | _ => false
theorem pure_aop {op : Op} (hp : pureOp op = true) (d : Nat) (ev : Operand → AV) (m m' : Nat → Option Row) : aop E op d ev m = aop E op d ev m' := by
  cases op <;> first
    | rfl
    | cases hp
theorem pure_prod {op : Op} (hp : pureOp op = true) {d : Nat} {ev : Operand → AV} {m : Nat → Option Row} {v : AV} {new : Option Row} {fz : Nat → Nat → Nat} (h : prodR (aop E op d ev m) v new fz) : new = none ∧ fz = fz0 := by
  have key : ∀ p v k n f, aop E op d ev m ≠ .eff p v k n f := by
    intro p v k n f
    cases op with
    | move _ => intro h; simp only [aop] at h; cases h
    | assign _ => intro h; simp only [aop] at h; cases h
    | extract _ _ => intro h; simp only [aop] at h; (repeat' (split at h)) <;> cases h
    | fieldAddr _ _ _ => intro h; simp only [aop] at h; (repeat' (split at h)) <;> cases h
    | binOp _ _ _ _ _ => intro h; simp only [aop, abin] at h; (repeat' (split at h)) <;> cases h
    | pick _ _ _ => intro h; simp only [aop] at h; (repeat' (split at h)) <;> cases h
    | _ => cases hp
  generalize aop E op d ev m = r at h key
  cases r with
  | no => exact h.elim
  | val v' => exact h.2
  | valc p v' => exact h.2.2
  | eff p v' k n f => exact absurd rfl (key _ _ _ _ _)
theorem pure_step {ops : Array Oper} {o : Oper} {σ σ' : St} (hp : pureOp o.op = true) (h : GStep0 E ops.toList o σ σ') :
    ∃ v, σ' = appE o.dst σ v none fz0 ∧ ∀ m', GStep0 E ops.toList o ⟨σ.t, m'⟩ (appE o.dst ⟨σ.t, m'⟩ v none fz0) := by
  obtain ⟨v, new, fz, hpr, hn, rfl⟩ := h
  rcases hpr with ⟨h1, h2, h3⟩ | ⟨h1, rfl, rfl, rfl⟩
  · obtain ⟨rfl, rfl⟩ := pure_prod hp h3
    refine ⟨v, rfl, fun m' => ⟨v, none, fz0, .inl ⟨h1, h2, ?_⟩, (fun h => by cases h), rfl⟩⟩
    rw [pure_aop hp _ _ m' σ.m]
    exact h3
  · exact ⟨_, rfl, fun m' => ⟨_, none, fz0, .inr ⟨h1, rfl, rfl, rfl⟩, (fun h => by cases h), rfl⟩⟩
theorem appE_pure (dst : Option Nat) (σ : St) (v : AV) : (appE dst σ v none fz0).m = σ.m := by
  cases dst with
  | none => exact effM_fz0 σ.m 0
  | some d => exact effM_fz0 σ.m d
theorem appE_t (dst : Option Nat) (t : Nat → AV) (m m' : Nat → Option Row) (v : AV) : (appE dst ⟨t, m⟩ v none fz0).t = (appE dst ⟨t, m'⟩ v none fz0).t := by
  cases dst <;> rfl
/-- A store and an operation that looks at no row: the store first. -/
theorem comm_store_first {ops : Array Oper} {oi oj : Oper} {σ σi σij : St} (hap : oi.apart ops oj = true) (hp : pureOp oi.op = true) (hi : GStep0 E ops.toList oi σ σi) (hj : GStep1 E ops.toList oj σi σij) :
    ∃ σj, GStep1 E ops.toList oj σ σj ∧ GStep0 E ops.toList oi σj σij := by
  obtain ⟨ap1, ap2, ap3⟩ := Oper.apart_spec hap
  obtain ⟨v, rfl, hall⟩ := pure_step hp hi
  obtain ⟨hw, hdn, t, x, y, id, r, hop, hs, rfl⟩ := hj
  have ev : ∀ z ∈ oj.op.operands, evO (appE oi.dst σ v none fz0).t z = evO σ.t z := fun z hz => evO_put (ops := ops) ap1 z hz
  have ex := ev x (by rw [hop]; simp [Op.operands])
  have ey := ev y (by rw [hop]; simp [Op.operands])
  rw [ex, ey, appE_pure] at hs
  refine ⟨⟨σ.t, setM σ.m id r⟩, ⟨by rw [← hw]; exact (wantedA_put (ops := ops) ap1).symm, hdn, t, x, y, id, r, hop, hs, rfl⟩, ?_⟩
  have := hall (setM σ.m id r)
  have e : appE oi.dst ⟨σ.t, setM σ.m id r⟩ v none fz0 = ⟨(appE oi.dst σ v none fz0).t, setM (appE oi.dst σ v none fz0).m id r⟩ := by
    rw [appE_pure]
    have h1 := appE_pure oi.dst ⟨σ.t, setM σ.m id r⟩ v
    have h2 := appE_t oi.dst σ.t (setM σ.m id r) σ.m v
    generalize appE oi.dst ⟨σ.t, setM σ.m id r⟩ v none fz0 = A at h1 h2
    obtain ⟨At, Am⟩ := A
    simp only at h1 h2
    rw [h1, h2]
  rw [← e]
  exact this
theorem comm_store_last {ops : Array Oper} {oi oj : Oper} {σ σi σij : St} (hap : oi.apart ops oj = true) (hp : pureOp oj.op = true) (hi : GStep1 E ops.toList oi σ σi) (hj : GStep0 E ops.toList oj σi σij) :
    ∃ σj, GStep0 E ops.toList oj σ σj ∧ GStep1 E ops.toList oi σj σij := by
  obtain ⟨ap1, ap2, ap3⟩ := Oper.apart_spec hap
  obtain ⟨hw, hdn, t, x, y, id, r, hop, hs, rfl⟩ := hi
  obtain ⟨v, rfl, hall⟩ := pure_step hp hj
  have ev : ∀ z ∈ oi.op.operands, evO (appE oj.dst σ v none fz0).t z = evO σ.t z := fun z hz => evO_put (ops := ops) ap3 z hz
  have ex := ev x (by rw [hop]; simp [Op.operands])
  have ey := ev y (by rw [hop]; simp [Op.operands])
  refine ⟨appE oj.dst σ v none fz0, hall σ.m, by rw [← hw]; exact wantedA_put (ops := ops) ap3, hdn, t, x, y, id, r, hop, by rw [ex, ey, appE_pure]; exact hs, ?_⟩
  rw [appE_pure]
  have h1 := appE_pure oj.dst ⟨σ.t, setM σ.m id r⟩ v
  have h2 := appE_t oj.dst σ.t (setM σ.m id r) σ.m v
  generalize appE oj.dst ⟨σ.t, setM σ.m id r⟩ v none fz0 = A at h1 h2
  obtain ⟨At, Am⟩ := A
  simp only at h1 h2
  rw [h1, h2]
theorem gstep1_of {ops : List Oper} {o : Oper} {σ σ' : St} (h : GStep E ops o σ σ') (hs : isStore o.op = true) (hg : o.guard.isNone = true) : GStep1 E ops o σ σ' := by
  rcases h with ⟨v, new, fz, hp, hn, rfl⟩ | h
  · rcases hp with ⟨_, h2, _⟩ | ⟨h1, rfl, rfl, rfl⟩
    · rw [hs] at h2; cases h2
    · rw [Option.isNone_iff_eq_none] at hg
      simp [wantedA, hg] at h1
  · exact h
/-- Two operations that may change places. -/
def mayPair (ops : Array Oper) (oi oj : Oper) : Bool := oi.apart ops oj && ((!isStore oi.op && !isStore oj.op) || (isStore oi.op && oi.guard.isNone && pureOp oj.op) || (pureOp oi.op && isStore oj.op && oj.guard.isNone))
theorem pure_noStore {op : Op} (h : pureOp op = true) : isStore op = false := by
  cases op <;> first
    | rfl
    | cases h
theorem mayPair_comm {ops : Array Oper} {oi oj : Oper} {σ σi σij : St} {a : Act} {w : World} (hr : Rel E N B w0 I0 σ a w) (h : mayPair ops oi oj = true) (hi : GStep E ops.toList oi σ σi) (hj : GStep E ops.toList oj σi σij) :
    ∃ σj, GStep E ops.toList oj σ σj ∧ GStep E ops.toList oi σj σij := by
  simp only [mayPair, Bool.and_eq_true, Bool.or_eq_true, Bool.not_eq_true'] at h
  obtain ⟨ap, (⟨h1, h2⟩ | ⟨⟨h1, hg⟩, h2⟩) | ⟨⟨h1, h2⟩, hg⟩⟩ := h
  · obtain ⟨σj, a1, a2⟩ := gstep_comm hr ap (gstep0_of hi h1) (gstep0_of hj h2)
    exact ⟨σj, .inl a1, .inl a2⟩
  · obtain ⟨σj, a1, a2⟩ := comm_store_last ap h2 (gstep1_of hi h1 hg) (gstep0_of hj (pure_noStore h2))
    exact ⟨σj, .inl a1, .inr a2⟩
  · obtain ⟨σj, a1, a2⟩ := comm_store_first ap h1 (gstep0_of hi (pure_noStore h1)) (gstep1_of hj h2 hg)
    exact ⟨σj, .inr a1, .inl a2⟩

theorem anyA_first (h : TabOK P E) (sp : SpecOK P E) {ops : Array Oper} (hd : DstOK N ops) {R : St → Prop} {i : Nat} {oi : Oper} (hi : ops[i]? = some oi) {D : Nat → Bool}
    (hD : ∀ j oj, ops[j]? = some oj → D j = true → ∃ e ∈ oj.after, Region.binds .any e = true ∧ (e.on = i ∨ D e.on = true)) :
    ∀ (fuel : Nat) (listed : Array Bool) (σ σi : St),
      (∀ q, listed.getD q false = true → D q = false) →
      (∀ j oj, ops[j]? = some oj → j ≠ i → listed.getD j true = false → D j = false → mayPair ops oi oj = true) →
      i ∈ Region.ready .any ops listed → GStep E ops.toList oi σ σi → AnyA E N B w0 I0 ops R fuel (listed.setIfInBounds i true) σi → AnyA E N B w0 I0 ops R (fuel + 1) listed σ := by
  intro fuel
  induction fuel with
  | zero =>
    intro listed σ σi _ _ hr hy H
    refine ⟨fun h => (by rw [h] at hr; cases hr), fun j hj _ => ?_⟩
    by_cases hji : j = i
    · subst hji
      exact ⟨σi, by unfold StepI; rw [hi]; exact hy, H⟩
    · have := ready_mono hj hji
      rw [H.1] at this
      cases this
  | succ fuel ih =>
    intro listed σ σi hl hfree hr hy H
    refine ⟨fun h => (by rw [h] at hr; cases hr), fun j hj hinh => ?_⟩
    by_cases hji : j = i
    · subst hji
      exact ⟨σi, by unfold StepI; rw [hi]; exact hy, H⟩
    · obtain ⟨a, w, hrel⟩ := hinh
      have hinh' := gstep_inh h sp hy hrel (hd i oi hi)
      obtain ⟨σij, hs, H'⟩ := H.2 j (ready_mono hj hji) hinh'
      obtain ⟨hjun, oj, hoj, hall⟩ := mem_ready.1 hj
      have hDj : D j = false := by
        cases hb : D j with
        | false => rfl
        | true =>
          obtain ⟨e, he, hbe, h1⟩ := hD j oj hoj hb
          have h2 := hall e he hbe
          rcases h1 with h1 | h1
          · have h0 := (mem_ready.1 hr).1
            rw [h1] at h2
            rcases Nat.lt_or_ge i listed.size with h' | h'
            · simp [h'] at h0 h2; rw [h0] at h2; cases h2
            · simp [Array.getElem?_eq_none h'] at h2
          · rw [hl _ h2] at h1; cases h1
      have mp := hfree j oj hoj hji hjun hDj
      unfold StepI at hs
      rw [hoj] at hs
      obtain ⟨σj, hj1, hj2⟩ := mayPair_comm hrel mp hy hs
      refine ⟨σj, by unfold StepI; rw [hoj]; exact hj1, ?_⟩
      refine ih (listed.setIfInBounds j true) σj σij (fun q hq => ?_) (fun k ok hk hki hun hno => ?_) (ready_mono hr (Ne.symm hji)) hj2 ?_
      · by_cases hqj : q = j
        · rw [hqj]; exact hDj
        · rw [getD_set_ne false (Ne.symm hqj)] at hq
          exact hl q hq
      · refine hfree k ok hk hki ?_ hno
        by_cases hjk : j = k
        · subst hjk; exact hjun
        · rw [getD_set_ne true hjk] at hun; exact hun
      · rw [Array.setIfInBounds_comm _ _ hji]
        exact H'

/-- What waits for k. -/
def waitsL (ops : Array Oper) (k : Nat) : Array Bool :=
  (List.range ops.size).foldl (fun acc j => acc.push (match ops[j]? with
    | some oj => oj.after.any fun e => Region.binds .any e && (e.on == k || acc.getD e.on false)
    | none => false)) #[]
/-- Every operation that is not listed, and does not wait for k, may change places with k. -/
def freeE (ops : Array Oper) (listed : Array Bool) (k : Nat) : Bool :=
  match ops[k]? with
  | none => false
  | some ok => let D := waitsL ops k
    ((List.range ops.size).all fun j => match ops[j]? with
    | none => true
    | some oj => (!D.getD j false || oj.after.any fun e => Region.binds .any e && (e.on == k || D.getD e.on false)) &&
        (j == k || listed.getD j true || D.getD j false || mayPair ops ok oj)) && (List.range D.size).all fun q => !listed.getD q false || !D.getD q false
def lexFromE (ops : Array Oper) : Nat → Nat → Array Bool → Bool
  | 0, _, listed => (Region.ready .any ops listed).isEmpty
  | fuel + 1, k, listed => (Region.ready .any ops listed).contains k && freeE ops listed k && lexFromE ops fuel (k + 1) (listed.setIfInBounds k true)
def lexE (ops : Array Oper) : Bool := lexFromE ops ops.size 0 (Array.replicate ops.size false)

theorem freeE_spec {ops : Array Oper} {listed : Array Bool} {k : Nat} {ok : Oper} (hk : ops[k]? = some ok) (h : freeE ops listed k = true) : ∃ D : Nat → Bool,
    (∀ j oj, ops[j]? = some oj → D j = true → ∃ e ∈ oj.after, Region.binds .any e = true ∧ (e.on = k ∨ D e.on = true)) ∧ (∀ q, listed.getD q false = true → D q = false) ∧
    ∀ j oj, ops[j]? = some oj → j ≠ k → listed.getD j true = false → D j = false → mayPair ops ok oj = true := by
  unfold freeE at h
  rw [hk] at h
  simp only [List.all_eq_true, List.mem_range, Bool.and_eq_true] at h
  obtain ⟨h, h'⟩ := h
  refine ⟨fun j => (waitsL ops k).getD j false, fun j oj hj hD => ?_, fun q hq => ?_, fun j oj hj hne hl hD => ?_⟩
  · have := (h j (Array.getElem?_eq_some_iff.1 hj).1)
    rw [hj] at this
    simp only [Bool.and_eq_true] at this
    have := this.1
    have hD : (waitsL ops k).getD j false = true := hD
    rw [hD] at this
    simp only [Bool.not_true, Bool.false_or, Array.any_eq_true, Bool.and_eq_true, Bool.or_eq_true, beq_iff_eq] at this
    obtain ⟨q, hq, hb, he⟩ := this
    exact ⟨_, Array.getElem_mem hq, hb, he⟩
  · rcases Nat.lt_or_ge q (waitsL ops k).size with hs | hs
    · have := h' q hs
      rw [hq] at this
      simpa using this
    · simp [Array.getD_eq_getD_getElem?, Array.getElem?_eq_none hs]
  · have := (h j (Array.getElem?_eq_some_iff.1 hj).1)
    rw [hj] at this
    simp only [Bool.and_eq_true, Bool.or_eq_true, beq_iff_eq] at this
    rcases this.2 with ((h1 | h1) | h1) | h1
    · exact absurd h1 hne
    · rw [hl] at h1; cases h1
    · have hD : (waitsL ops k).getD j false = false := hD
      rw [hD] at h1; cases h1
    · exact h1

/-- The lexical walk of a region in the evaluator's states. -/
def GSteps (E : Env) (ops : List Oper) : List Oper → St → St → Prop
  | [], σ, σ' => σ' = σ
  | o :: r, σ, σ' => ∃ σ1, GStep E ops o σ σ1 ∧ GSteps E ops r σ1 σ'

theorem anyA_lex (h : TabOK P E) (sp : SpecOK P E) {ops : Array Oper} (hd : DstOK N ops) {R : St → Prop} : ∀ (l : List Oper) (k : Nat) (listed : Array Bool) (σ σ' : St), (∀ j, l[j]? = ops[k + j]?) →
    lexFromE ops l.length k listed = true → GSteps E ops.toList l σ σ' → R σ' → AnyA E N B w0 I0 ops R l.length listed σ
  | [], _, _, _, _, _, hB, hs, hR => by
    simp only [GSteps] at hs
    subst hs
    exact ⟨by simpa [lexFromE] using hB, hR⟩
  | o :: l, k, listed, σ, σ', hl, hB, hs, hR => by
    have h0 : ops[k]? = some o := by simpa using (hl 0).symm
    simp only [List.length_cons, lexFromE, Bool.and_eq_true] at hB
    obtain ⟨⟨hr, hf⟩, hB'⟩ := hB
    obtain ⟨σ1, h1, h2⟩ := hs
    obtain ⟨D, d1, d2, d3⟩ := freeE_spec h0 hf
    exact anyA_first h sp hd h0 d1 l.length listed σ σ1 d2 d3 (by simpa using hr) h1
      (anyA_lex h sp hd l (k + 1) _ σ1 σ' (fun j => by have := hl (j + 1); simpa [Nat.add_assoc, Nat.add_comm 1 j] using this) hB' h2 hR)

theorem rel_drew {σ : St} {a : Act} {w : World} (h : Rel E N B w0 I0 σ a w) : Rel E N B w0 I0 σ a { w with drawn := w.drawn + 1 } := by
  obtain ⟨ρ, I, M, ht, hs, hd⟩ := h
  have hb : Below w.heap.size w w.drew := below_drew w
  exact ⟨ρ, I, M.world (w' := w.drew) hb (fun _ _ h => h) (fun _ _ h => .inl h) (fun b k h => M.ilt b k h), fun i => Rep.mono (Ext.of_below M.ilt hb fun _ _ h => h) _ _ (ht i), hs, hd⟩

theorem region_draw (h : TabOK P E) (sp : SpecOK P E) (hm : P.follows .mixedOrders = true) {ops : Array Oper} (hd : DstOK N ops) (hB : lexE ops = true) {id : Nat} {σ σ' : St} {a : Act} {w : World} (hs : GSteps E ops.toList ops.toList σ σ')
    (hr : Rel E N B w0 I0 σ a w) {Q : Exit → Act → World → Prop} (hQ : ∀ a w, Rel E N B w0 I0 σ' a w → Q .normal a w) : (Code.region id ops true).wp P Q a w := by
  refine wp_region_any hm ?_
  have hA := anyA_lex (N := N) (B := B) (w0 := w0) (I0 := I0) (R := fun τ => τ = σ') h sp hd ops.toList 0 (Array.replicate ops.size false) σ σ' (by simp) (by simpa [lexE] using hB) hs rfl
  have := anyA_sound h sp hd (Q := Q) (fun τ a w e hr => by subst e; exact hQ a w hr) ops.toList.length (Array.replicate ops.size false) σ a { w with drawn := w.drawn + 1 } hA (rel_drew hr)
  simpa using this

theorem ops_seq (h : TabOK P E) (sp : SpecOK P E) {ops : Array Oper} (hd : DstOK N ops) {Q : Exit → Act → World → Prop} {σ' : St} (hQ : ∀ a w, Rel E N B w0 I0 σ' a w → Q .normal a w) :
    ∀ (l : List Oper) (k : Nat) (σ : St) (a : Act) (w : World), (∀ j, l[j]? = ops[k + j]?) → GSteps E ops.toList l σ σ' → Rel E N B w0 I0 σ a w → wpOps P ops Q (List.range' k l.length) a w
  | [], _, σ, a, w, _, hs, hr => by
    simp only [GSteps] at hs
    subst hs
    exact hQ a w hr
  | o :: l, k, σ, a, w, hl, hs, hr => by
    have h0 : ops[k]? = some o := by simpa using (hl 0).symm
    obtain ⟨σ1, h1, h2⟩ := hs
    simp only [List.length_cons, List.range'_succ]
    rw [wpOps_cons]
    exact gstep_wp h sp h0 h1 hr (hd k o h0) fun a' w' hr' =>
      ops_seq h sp hd hQ l (k + 1) σ1 a' w' (fun j => by have := hl (j + 1); simpa [Nat.add_assoc, Nat.add_comm 1 j] using this) h2 hr'

theorem region_seq (h : TabOK P E) (sp : SpecOK P E) {ops : Array Oper} (hd : DstOK N ops) {id : Nat} {σ σ' : St} {a : Act} {w : World} (hs : GSteps E ops.toList ops.toList σ σ')
    (hr : Rel E N B w0 I0 σ a w) {Q : Exit → Act → World → Prop} (hQ : ∀ a w, Rel E N B w0 I0 σ' a w → Q .normal a w) : (Code.region id ops false).wp P Q a w := by
  refine wp_region ?_
  have := ops_seq h sp hd hQ ops.toList 0 σ a w (by simp) hs hr
  rw [List.range_eq_range']
  simpa using this
end Go.Proofs.Ytalppnldnahmbaa.AI
