/- Calls that are evaluated in the caller's rows: their soundness. Conditions: none. -/
import Derived.Test.YtbhbjmneglkgnaaAiFrz
namespace Go.Proofs.Ytbhbjmneglkgnaa.AI
open Go Go.RowKit

def withB (E : Env) (b : Base) (S : List Nat) : Env := { E with base := some b, keep := S }
/-- A function, evaluated in the caller's rows. -/
noncomputable def evInl (E : Env) (fn : Func) : InlT := fun S rv args K =>
  match fn.body, Nat.ble args.length fn.ntmps with
  | some c, true => ∀ b : Base, forceL2 args fun args => evF (withB E b S) c ⟨initT args, lookR rv⟩ kb0 (fun e σ _ => match e with
    | .exit _ => False
    | _ => match resAV E fn σ with
      | some v => force v fun v => K v σ.m
      | none => False)
  | _, _ => False

/-- A call in the caller's rows is the model's. -/
structure InlEnt (P : Program) (T : TypeId) (f : FuncId) (g : InlT) : Prop where
  call : Callable P f
  ok : ∀ (S : List Nat) (rv : List (Nat × Row)) (args : List AV) (K : AV → (Nat → Option Row) → Prop), g S rv args K →
    ∀ (B : Nat) (w0 : World) (I0 : Nat → Nat → Prop) (ρ : Nat → Place) (I : Nat → Nat → Prop) (w : World) (vs : Array Value), (∀ b k, I0 b k → b < B) → MRel T B w0 I0 ρ I (lookR rv) w → Rep2L T I w ρ args vs.toList →
      Calls P f vs w fun e w' => ∃ x v m', e = .returned x ∧ K v m' ∧ ∃ ρ' I', ExtK S ρ I w ρ' I' w' ∧ MRel T B w0 I0 ρ' I' m' w' ∧ Rep T I' w' ρ' v x

theorem init_rep'' {T : TypeId} {I : Nat → Nat → Prop} {w : World} {ρ : Nat → Place} : ∀ {args : List AV} {vs : List Value} (_ : Rep2L T I w ρ args vs) (more : List Value) (i : Nat), Rep T I w ρ (initT args i) ((vs ++ more)[i]?.getD undef)
  | [], _, _, _, _ => by simp [initT, Rep, Rep2, Rep1]
  | _ :: _, v :: _, h, more, 0 => by simp only [initT, List.cons_append, List.getElem?_cons_zero, Option.getD_some]; exact .of2 h.1
  | _ :: r, _ :: s, h, more, i + 1 => by simpa [initT] using init_rep'' h.2 more i
  | _ :: _, [], h, _, _ => h.elim

variable {P : Program} {E : Env}
theorem inl_of_ev (h : TabOK P E) (sp : SpecOK P E) (il : InlOK P E) (hm : P.follows .mixedOrders = true) {f : FuncId} {fn : Func} {c : Code}
    (hf : P.funcs[f]? = some fn) (hb : fn.body = some c) (hcl : Callable P f) (hc : codeOK fn.ntmps c = true) :
    InlEnt P E.errT f (evInl E fn) := by
  refine ⟨hcl, fun S rv args K hg B w0 I0 ρ I w vs hi M hargs => ?_⟩
  refine calls_of_wp hf hb ?_
  have hlen0 : args.length ≤ fn.ntmps := by
    unfold evInl at hg
    rw [hb] at hg
    split at hg
    · rename_i hq; exact Nat.le_of_ble_eq_true hq
    · exact hg.elim
  unfold evInl at hg
  rw [hb, Nat.ble_eq_true_of_le hlen0] at hg
  have he := hg ⟨ρ, I, w⟩
  rw [forceL2_eq, evF_eq] at he
  have hlen : vs.size = args.length := by
    have : ∀ (l : List AV) (xs : List Value), Rep2L E.errT I w ρ l xs → xs.length = l.length := by
      intro l
      induction l with
      | nil => intro xs hx; cases xs with
        | nil => rfl
        | cons => exact hx.elim
      | cons v r ih => intro xs hx; cases xs with
        | nil => exact hx.elim
        | cons y s => simp only [List.length_cons]; rw [ih s hx.2]
    simpa using this args vs.toList hargs
  have hrel : Rel (withB E ⟨ρ, I, w⟩ S) fn.ntmps B w0 I0 ⟨initT args, lookR rv⟩ { tmps := vs ++ Array.replicate (fn.ntmps - vs.size) undef, defers := [] } w := by
    refine ⟨ρ, I, M, fun i => ?_, ?_, ⟨rfl, ExtK.of Ext.refl, hi⟩⟩
    · have := init_rep'' hargs (List.replicate (fn.ntmps - vs.size) undef) i
      have e : (vs ++ Array.replicate (fn.ntmps - vs.size) undef).getD i undef = ((vs.toList ++ List.replicate (fn.ntmps - vs.size) undef)[i]?.getD undef) := by
        rw [Array.getD_eq_getD_getElem?, ← Array.getElem?_toList]
        simp
      rw [e]
      exact this
    · simp only [Array.size_append, Array.size_replicate]
      omega
  refine wp_mono (ev_sound (E := withB E ⟨ρ, I, w⟩ S) h sp il hm c hc _ kb0 _ _ w he (kb0_ok _) hrel) fun e a' w' hp => ?_
  obtain ⟨e', σ, kb, h1, h2, _, ρ', I', M', ht, _, ⟨hdf, hgh, _⟩⟩ := hp
  have fin : ∀ v, resAV E fn σ = some v → K v σ.m → a'.defers = [] ∧ ∃ v, (results fn a'.tmps).run P w' = .ok v w' ∧ ∃ x v' m', Ending.returned v = .returned x ∧ K v' m' ∧ ∃ ρ' I', ExtK S ρ I w ρ' I' w' ∧ MRel E.errT B w0 I0 ρ' I' m' w' ∧ Rep E.errT I' w' ρ' v' x := by
    intro v hv hle
    obtain ⟨x, hx, hr⟩ := results_sound (E := E) h M' ht hv
    exact ⟨hdf, x, hx, x, v, σ.m, rfl, hle, ρ', I', hgh, M', hr⟩
  cases e <;> simp only [exOf] at h1 <;> first
    | cases h1
    | skip
  · simp only at h2
    split at h2
    · rename_i v hv; rw [force_eq] at h2; exact fin v hv h2
    · exact h2.elim
  · exact h2.elim
  · simp only at h2
    split at h2
    · rename_i v hv; rw [force_eq] at h2; exact fin v hv h2
    · exact h2.elim
end Go.Proofs.Ytbhbjmneglkgnaa.AI
