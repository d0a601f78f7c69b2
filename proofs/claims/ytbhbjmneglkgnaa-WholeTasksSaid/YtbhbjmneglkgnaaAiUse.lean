/- The evaluator in use: tables as lists, a function's contract by one theorem. Conditions: none. -/
import Derived.Test.YtbhbjmneglkgnaaAiLaw
namespace Go.Proofs.Ytbhbjmneglkgnaa.AI
open Go

def lookT : List (Nat × TD) → Nat → Option TD
  | [], _ => none
  | (k, td) :: r, t => match Nat.beq k t with
    | true => some td
    | false => lookT r t
abbrev Sp := List AV → SR
def lookS : List (Nat × Sp) → Nat → List AV → SR
  | [], _, _ => .no
  | (k, s) :: r, f, args => match Nat.beq k f with
    | true => s args
    | false => lookS r f args
def env (T : TypeId) (tabs : List (Nat × TD)) (specs : List (Nat × Sp)) : Env := { tab := lookT tabs, spec := lookS specs, errT := T }

variable {P : Program} {T : TypeId} {tabs : List (Nat × TD)} {specs : List (Nat × Sp)}

theorem tabOK_of (h : (tabs.all fun p => tdOK P p.1 p.2) = true) : TabOK P (env T tabs specs) := by
  intro t td ht
  simp only [env] at ht
  induction tabs with
  | nil => cases ht
  | cons p r ih =>
    obtain ⟨k, td'⟩ := p
    simp only [List.all_cons, Bool.and_eq_true] at h
    simp only [lookT] at ht
    split at ht
    · rename_i hb
      cases ht
      rw [← Nat.eq_of_beq_eq_true hb]
      exact h.1
    · exact ih h.2 ht

def SrOK (P : Program) (T : TypeId) (f : FuncId) (args : List AV) : SR → Prop
  | .no => True
  | .ok r => FnOK P T f args r
  | .okb b => FnOK P T f args (.bit b)
  | .pre p r => p → FnOK P T f args r
  | .new p r => p → FnNew P T f args r
  | .flt p r => p → FnOK P T f args r
  | .new2 p r1 r2 rest => p → FnNew2 P T f args r1 r2 rest

/-- A function's line of the specification holds. -/
structure EntOK (P : Program) (T : TypeId) (f : FuncId) (s : Sp) : Prop where
  call : Callable P f
  ok : ∀ args, SrOK P T f args (s args)

theorem specOK_nil : SpecOK P (env T tabs []) := fun _ _ => trivial
theorem specOK_cons {f : FuncId} {s : Sp} (h : EntOK P T f s) (hr : SpecOK P (env T tabs specs)) : SpecOK P (env T tabs ((f, s) :: specs)) := by
  intro g args
  have h2 := hr g args
  simp only [env] at h2 ⊢
  simp only [lookS]
  cases hb : Nat.beq f g with
  | true =>
    have e := Nat.eq_of_beq_eq_true hb
    subst e
    have := h.ok args
    cases hs : s args with
    | no => trivial
    | ok r => rw [hs] at this; exact ⟨h.call, this⟩
    | okb b => rw [hs] at this; exact ⟨h.call, this⟩
    | pre p r => rw [hs] at this; exact ⟨h.call, this⟩
    | flt p r => rw [hs] at this; exact ⟨h.call, this⟩
    | new p r => rw [hs] at this; exact ⟨h.call, this⟩
    | new2 p r1 r2 rest => rw [hs] at this; exact ⟨h.call, this⟩
  | false => exact h2

def callB (fn : Func) : Bool := !(fn.name == "runtime.NumGoroutine") && !fn.body.isNone
theorem callable_of {f : FuncId} {fn : Func} (hf : P.funcs[f]? = some fn) (h : callB fn = true) : Callable P f := by
  simp only [callB, Bool.and_eq_true, Bool.not_eq_true'] at h
  exact ⟨fn, hf, h.1, h.2⟩

def fnB (fn : Func) (n : Nat) : Bool := match fn.body with
  | some c => codeOK fn.ntmps c && Nat.ble n fn.ntmps
  | none => false
theorem fn_of (h : (tabs.all fun p => tdOK P p.1 p.2) = true) (sp : SpecOK P (env T tabs specs)) (hm : P.follows .mixedOrders = true) {f : FuncId} {fn : Func} {args : List AV} {r : AV}
    (hf : P.funcs[f]? = some fn) (hb : fnB fn args.length = true) (he : evFn (env T tabs specs) fn args (fun r' => AVle T r' r)) : FnOK P T f args r := by
  unfold fnB at hb
  split at hb
  · rename_i c hc
    simp only [Bool.and_eq_true] at hb
    exact fnOK_of_ev (tabOK_of h) rfl sp (inlOK_none fun _ => rfl) hm hf hc hb.1 (by simpa using hb.2) he
  · cases hb

theorem AVle.of_eq {r r' : AV} (h : r = r') : AVle T r r' := h ▸ AVle.refl
end Go.Proofs.Ytbhbjmneglkgnaa.AI
