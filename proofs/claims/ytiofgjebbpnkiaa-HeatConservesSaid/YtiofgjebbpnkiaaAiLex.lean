/- From the evaluator's region to the model's. Conditions: none. -/
import Derived.Test.YtiofgjebbpnkiaaAiAny
namespace Go.Proofs.Ytiofgjebbpnkiaa.AI
open Go Go.RowKit

variable {P : Program} {E : Env} {N B : Nat} {w0 : World} {I0 : Nat → Nat → Prop}

def StepI (E : Env) (ops : Array Oper) (i : Nat) (σ σ' : St) : Prop :=
  match ops[i]? with
  | none => σ' = σ
  | some o => GStep E ops.toList o σ σ'

/-- Whatever order is picked from here on. -/
def AnyA (E : Env) (N B : Nat) (w0 : World) (I0 : Nat → Nat → Prop) (ops : Array Oper) (R : St → Prop) : Nat → Array Bool → St → Prop
  | 0, listed, σ => Region.ready .any ops listed = [] ∧ R σ
  | fuel + 1, listed, σ => (Region.ready .any ops listed = [] → R σ) ∧
    ∀ i ∈ Region.ready .any ops listed, (∃ a w, Rel E N B w0 I0 σ a w) → ∃ σ', StepI E ops i σ σ' ∧ AnyA E N B w0 I0 ops R fuel (listed.setIfInBounds i true) σ'

/-- No temporary is written beyond the frame. -/
def DstOK (N : Nat) (ops : Array Oper) : Prop := ∀ (i : Nat) (o : Oper), ops[i]? = some o → ∀ d, o.dst = some d → d < N

theorem anyA_sound (h : TabOK P E) (sp : SpecOK P E) {ops : Array Oper} (hd : DstOK N ops) {R : St → Prop} {Q : Exit → Act → World → Prop} (hQ : ∀ σ a w, R σ → Rel E N B w0 I0 σ a w → Q .normal a w) :
    ∀ (fuel : Nat) (listed : Array Bool) (σ : St) (a : Act) (w : World), AnyA E N B w0 I0 ops R fuel listed σ → Rel E N B w0 I0 σ a w → wpAny P .any ops Q fuel listed a w
  | 0, _, σ, a, w, H, hr => ⟨H.1, hQ σ a w H.2 hr⟩
  | fuel + 1, listed, σ, a, w, H, hr => by
    refine ⟨fun h0 => hQ σ a w (H.1 h0) hr, fun i hi => ?_⟩
    obtain ⟨σ', hs, H'⟩ := H.2 i hi ⟨a, w, hr⟩
    unfold StepI at hs
    cases ho : ops[i]? with
    | none =>
      rw [ho] at hs
      simp only at hs
      subst hs
      simp only [wpOp, ho]
      exact anyA_sound h sp hd hQ fuel _ _ _ _ H' hr
    | some o =>
      rw [ho] at hs
      exact gstep_wp h sp ho hs hr (hd i o ho) fun a' w' hr' => anyA_sound h sp hd hQ fuel _ _ _ _ H' hr'

theorem gstep0_of {ops : List Oper} {o : Oper} {σ σ' : St} (h : GStep E ops o σ σ') (hs : isStore o.op = false) : GStep0 E ops o σ σ' := by
  rcases h with h | ⟨_, _, t, x, y, id, r, hop, _⟩
  · exact h
  · rw [hop] at hs; cases hs

theorem anyA_first (h : TabOK P E) (sp : SpecOK P E) {ops : Array Oper} (hd : DstOK N ops) {R : St → Prop} {i : Nat} {oi : Oper} (hi : ops[i]? = some oi) :
    ∀ (fuel : Nat) (listed : Array Bool) (σ σi : St),
      (∀ j oj, ops[j]? = some oj → j ≠ i → listed.getD j true = false → (∀ e ∈ oj.after, Region.binds .any e = true → e.on ≠ i) → oi.apart ops oj = true ∧ isStore oi.op = false ∧ isStore oj.op = false) →
      i ∈ Region.ready .any ops listed → GStep E ops.toList oi σ σi → AnyA E N B w0 I0 ops R fuel (listed.setIfInBounds i true) σi → AnyA E N B w0 I0 ops R (fuel + 1) listed σ := by
  intro fuel
  induction fuel with
  | zero =>
    intro listed σ σi _ hr hy H
    refine ⟨fun h => (by rw [h] at hr; cases hr), fun j hj _ => ?_⟩
    by_cases hji : j = i
    · subst hji
      exact ⟨σi, by unfold StepI; rw [hi]; exact hy, H⟩
    · have := ready_mono hj hji
      rw [H.1] at this
      cases this
  | succ fuel ih =>
    intro listed σ σi hfree hr hy H
    refine ⟨fun h => (by rw [h] at hr; cases hr), fun j hj hinh => ?_⟩
    by_cases hji : j = i
    · subst hji
      exact ⟨σi, by unfold StepI; rw [hi]; exact hy, H⟩
    · obtain ⟨a, w, hrel⟩ := hinh
      have hinh' := gstep_inh h sp hy hrel (hd i oi hi)
      obtain ⟨σij, hs, H'⟩ := H.2 j (ready_mono hj hji) hinh'
      obtain ⟨hjun, oj, hoj, hall⟩ := mem_ready.1 hj
      have hnot : ∀ e ∈ oj.after, Region.binds .any e = true → e.on ≠ i := fun e he hb heq => by
        have h1 := hall e he hb
        have h0 := (mem_ready.1 hr).1
        rw [heq] at h1
        rcases Nat.lt_or_ge i listed.size with h' | h'
        · simp [h'] at h0 h1; rw [h0] at h1; cases h1
        · simp [Array.getElem?_eq_none h'] at h1
      obtain ⟨ap, si, sj⟩ := hfree j oj hoj hji hjun hnot
      unfold StepI at hs
      rw [hoj] at hs
      obtain ⟨σj, hj1, hj2⟩ := gstep_comm hrel ap (gstep0_of hy si) (gstep0_of hs sj)
      refine ⟨σj, by unfold StepI; rw [hoj]; exact .inl hj1, ?_⟩
      refine ih (listed.setIfInBounds j true) σj σij (fun k ok hk hki hun hno => ?_) (ready_mono hr (Ne.symm hji)) (.inl hj2) ?_
      · refine hfree k ok hk hki ?_ hno
        by_cases hjk : j = k
        · subst hjk; exact hjun
        · rw [getD_set_ne true hjk] at hun; exact hun
      · rw [Array.setIfInBounds_comm _ _ hji]
        exact H'

/-- Every operation that is not listed, and does not wait for k, may change places with k. -/
def freeE (ops : Array Oper) (listed : Array Bool) (k : Nat) : Bool :=
  match ops[k]? with
  | none => false
  | some ok => (List.range ops.size).all fun j => match ops[j]? with
    | none => true
    | some oj => j == k || listed.getD j true || oj.after.any (fun e => Region.binds .any e && e.on == k) || (ok.apart ops oj && !isStore ok.op && !isStore oj.op)
def lexFromE (ops : Array Oper) : Nat → Nat → Array Bool → Bool
  | 0, _, listed => (Region.ready .any ops listed).isEmpty
  | fuel + 1, k, listed => (Region.ready .any ops listed).contains k && freeE ops listed k && lexFromE ops fuel (k + 1) (listed.setIfInBounds k true)
def lexE (ops : Array Oper) : Bool := lexFromE ops ops.size 0 (Array.replicate ops.size false)

theorem freeE_spec {ops : Array Oper} {listed : Array Bool} {k : Nat} {ok : Oper} (hk : ops[k]? = some ok) (h : freeE ops listed k = true) :
    ∀ j oj, ops[j]? = some oj → j ≠ k → listed.getD j true = false → (∀ e ∈ oj.after, Region.binds .any e = true → e.on ≠ k) → ok.apart ops oj = true ∧ isStore ok.op = false ∧ isStore oj.op = false := by
  intro j oj hj hne hl hno
  unfold freeE at h
  rw [hk] at h
  simp only [List.all_eq_true, List.mem_range] at h
  have := h j (Array.getElem?_eq_some_iff.1 hj).1
  rw [hj] at this
  simp only [Bool.or_eq_true, beq_iff_eq, Bool.and_eq_true, Bool.not_eq_true'] at this
  rcases this with ((h1 | h1) | h1) | h1
  · exact absurd h1 hne
  · rw [hl] at h1; cases h1
  · simp only [Array.any_eq_true, Bool.and_eq_true, beq_iff_eq] at h1
    obtain ⟨q, hq, hb, he⟩ := h1
    exact absurd he (hno _ (Array.getElem_mem hq) hb)
  · exact ⟨h1.1.1, h1.1.2, h1.2⟩

/-- The lexical walk of a region in the evaluator's states. -/
def GSteps (E : Env) (ops : List Oper) : List Oper → St → St → Prop
  | [], σ, σ' => σ' = σ
  | o :: r, σ, σ' => ∃ σ1, GStep E ops o σ σ1 ∧ GSteps E ops r σ1 σ'

theorem anyA_lex (h : TabOK P E) (sp : SpecOK P E) {ops : Array Oper} (hd : DstOK N ops) {R : St → Prop} : ∀ (l : List Oper) (k : Nat) (listed : Array Bool) (σ σ' : St), (∀ j, l[j]? = ops[k + j]?) →
    lexFromE ops l.length k listed = true → GSteps E ops.toList l σ σ' → R σ' → AnyA E N B w0 I0 ops R l.length listed σ
  | [], _, _, _, _, _, hB, hs, hR => by
    simp only [GSteps] at hs
    subst hs
    exact ⟨by simpa [lexFromE] using hB, hR⟩
  | o :: l, k, listed, σ, σ', hl, hB, hs, hR => by
    have h0 : ops[k]? = some o := by simpa using (hl 0).symm
    simp only [List.length_cons, lexFromE, Bool.and_eq_true] at hB
    obtain ⟨⟨hr, hf⟩, hB'⟩ := hB
    obtain ⟨σ1, h1, h2⟩ := hs
    exact anyA_first h sp hd h0 l.length listed σ σ1 (freeE_spec h0 hf) (by simpa using hr) h1
      (anyA_lex h sp hd l (k + 1) _ σ1 σ' (fun j => by have := hl (j + 1); simpa [Nat.add_assoc, Nat.add_comm 1 j] using this) hB' h2 hR)

theorem rel_drew {σ : St} {a : Act} {w : World} (h : Rel E N B w0 I0 σ a w) : Rel E N B w0 I0 σ a { w with drawn := w.drawn + 1 } := by
  obtain ⟨ρ, I, M, ht, hs, hd⟩ := h
  have hb : Below w.heap.size w w.drew := below_drew w
  exact ⟨ρ, I, M.world (w' := w.drew) hb (fun _ _ h => h) (fun _ _ h => .inl h) (fun b k h => M.ilt b k h), fun i => Rep.mono (Ext.of_below M.ilt hb fun _ _ h => h) _ _ (ht i), hs, hd⟩

theorem region_draw (h : TabOK P E) (sp : SpecOK P E) (hm : P.follows .mixedOrders = true) {ops : Array Oper} (hd : DstOK N ops) (hB : lexE ops = true) {id : Nat} {σ σ' : St} {a : Act} {w : World} (hs : GSteps E ops.toList ops.toList σ σ')
    (hr : Rel E N B w0 I0 σ a w) {Q : Exit → Act → World → Prop} (hQ : ∀ a w, Rel E N B w0 I0 σ' a w → Q .normal a w) : (Code.region id ops true).wp P Q a w := by
  refine wp_region_any hm ?_
  have hA := anyA_lex (N := N) (B := B) (w0 := w0) (I0 := I0) (R := fun τ => τ = σ') h sp hd ops.toList 0 (Array.replicate ops.size false) σ σ' (by simp) (by simpa [lexE] using hB) hs rfl
  have := anyA_sound h sp hd (Q := Q) (fun τ a w e hr => by subst e; exact hQ a w hr) ops.toList.length (Array.replicate ops.size false) σ a { w with drawn := w.drawn + 1 } hA (rel_drew hr)
  simpa using this

theorem ops_seq (h : TabOK P E) (sp : SpecOK P E) {ops : Array Oper} (hd : DstOK N ops) {Q : Exit → Act → World → Prop} {σ' : St} (hQ : ∀ a w, Rel E N B w0 I0 σ' a w → Q .normal a w) :
    ∀ (l : List Oper) (k : Nat) (σ : St) (a : Act) (w : World), (∀ j, l[j]? = ops[k + j]?) → GSteps E ops.toList l σ σ' → Rel E N B w0 I0 σ a w → wpOps P ops Q (List.range' k l.length) a w
  | [], _, σ, a, w, _, hs, hr => by
    simp only [GSteps] at hs
    subst hs
    exact hQ a w hr
  | o :: l, k, σ, a, w, hl, hs, hr => by
    have h0 : ops[k]? = some o := by simpa using (hl 0).symm
    obtain ⟨σ1, h1, h2⟩ := hs
    simp only [List.length_cons, List.range'_succ]
    rw [wpOps_cons]
    exact gstep_wp h sp h0 h1 hr (hd k o h0) fun a' w' hr' =>
      ops_seq h sp hd hQ l (k + 1) σ1 a' w' (fun j => by have := hl (j + 1); simpa [Nat.add_assoc, Nat.add_comm 1 j] using this) h2 hr'

theorem region_seq (h : TabOK P E) (sp : SpecOK P E) {ops : Array Oper} (hd : DstOK N ops) {id : Nat} {σ σ' : St} {a : Act} {w : World} (hs : GSteps E ops.toList ops.toList σ σ')
    (hr : Rel E N B w0 I0 σ a w) {Q : Exit → Act → World → Prop} (hQ : ∀ a w, Rel E N B w0 I0 σ' a w → Q .normal a w) : (Code.region id ops false).wp P Q a w := by
  refine wp_region ?_
  have := ops_seq h sp hd hQ ops.toList 0 σ a w (by simp) hs hr
  rw [List.range_eq_range']
  simpa using this
end Go.Proofs.Ytiofgjebbpnkiaa.AI
