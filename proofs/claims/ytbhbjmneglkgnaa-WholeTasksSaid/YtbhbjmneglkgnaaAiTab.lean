/- The table of types that the evaluator goes by, held against the program's own. Conditions: none. -/
import Derived.Test.YtbhbjmneglkgnaaAiRep
import Derived.Laws.Tables
namespace Go.Proofs.Ytbhbjmneglkgnaa.AI
open Go Go.RowKit

def zeqB : AV → Value → Bool
  | .int k n, .int k' n' => k == k' && n == n'
  | .bit b, .bool b' => b == b'
  | .nilI, .nilIface => true
  | .nilP, .pointer a => a.isNone
  | .nilS, .slice a n c => a.isNone && n == 0 && c == 0
  | .nilF, .nilFunc => true
  | .bad, v => v.oneCell'
  | _, _ => false
def zeqL : List AV → List Value → Bool
  | [], [] => true
  | a :: r, v :: s => zeqB a v && zeqL r s
  | _, _ => false

/-- A field that is a whole number or a truth value. -/
def simpleF (P : Program) (f : Field) : Bool := match P.underlying f.type with
  | some (.int .i64) => true
  | some .bool => true
  | _ => false
/-- Two values of such a struct can be compared. -/
def eqFine (P : Program) (t : TypeId) (fields : Array Field) : Bool := !P.stoodInHeld t && !P.eqGuardType P.depth t && fields.toList.all fun f => f.name != "_"
def arrFine (P : Program) (t e : TypeId) : Bool := match P.underlying e with
  | some .bool => !P.eqGuardType P.depth t
  | _ => true
def descOK (P : Program) (t : TypeId) : TDesc → Bool
  | .prim => match P.underlying t with | some (.struct _) => false | some (.array _ _) => false | some _ => true | none => false
  | .int k => match P.underlying t with | some (.int k') => k == k' | _ => false
  | .bool => match P.underlying t with | some .bool => true | _ => false
  | .iface => match P.underlying t with | some (.interface _) => true | _ => false
  | .ptr => match P.underlying t with | some (.pointer _) => true | _ => false
  | .struct fs => match P.underlying t with
    | some (.struct fields) => (fields.toList.mapM fun f => (P.info? f.type).map fun i => (f.offset, i.size, f.type)) == some fs && (!fields.toList.all (simpleF P) || eqFine P t fields)
    | _ => false
  | .array n e => match P.underlying t with | some (.array n' e') => n == n' && e == e' && (P.info? e).isSome && arrFine P t e | _ => false
  | .slice e => match P.underlying t with | some (.slice e') => e == e' | _ => false

def isAggV : Value → Bool
  | .agg _ => true
  | _ => false

def tdOK (P : Program) (t : TypeId) (td : TD) : Bool :=
  match P.info? t with
  | none => false
  | some i => i.size == td.size && i.bytes == td.bytes && (match i.zero with
      | some z => zeqL td.z z.cells.toList && z.cells.size == td.size && (isAggV z == td.desc.agg)
      | none => false) && descOK P t td.desc && (td.desc.agg || td.size == 1)

/-- The evaluator's table is the program's. -/
def TabOK (P : Program) (E : Env) : Prop := ∀ t td, E.tab t = some td → tdOK P t td = true

variable {P : Program} {E : Env} {ρ : Nat → Place} {I : Nat → Nat → Prop} {w : World}

theorem zeqB_rep {T : TypeId} : ∀ (a : AV) (v : Value), zeqB a v = true → v.oneCell' = true ∧ Rep1 T I w ρ a v := by
  intro a v h
  cases a <;> cases v <;> simp [zeqB, Value.oneCell', Rep1] at h ⊢ <;> first
    | exact ⟨h.1.symm, h.2.symm⟩
    | exact ⟨h.1.1, h.1.2, h.2⟩
    | exact h.symm
    | exact h
theorem zeqL_rep {T : TypeId} : ∀ (l : List AV) (vs : List Value), zeqL l vs = true → RepL T I w ρ l vs
  | [], [], _ => by simp [RepL]
  | a :: r, v :: s, h => by
    simp only [zeqL, Bool.and_eq_true] at h
    simp only [RepL]
    exact ⟨zeqB_rep a v h.1, zeqL_rep r s h.2⟩
  | [], _ :: _, h => by simp [zeqL] at h
  | _ :: _, [], h => by simp [zeqL] at h

/-- What a row of the table gives. -/
structure TdGives (P : Program) (t : TypeId) (td : TD) (i : TypeInfo) (z : Value) : Prop where
  info : P.info? t = some i
  size : i.size = td.size
  bytes : i.bytes = td.bytes
  zero : i.zero = some z
  zeq : zeqL td.z z.cells.toList = true
  zsize : z.cells.size = td.size
  zagg : isAggV z = td.desc.agg
  desc : descOK P t td.desc = true
  one : td.desc.agg = true ∨ td.size = 1

theorem TabOK.gives (h : TabOK P E) {t : TypeId} {td : TD} (ht : E.tab t = some td) : ∃ i z, TdGives P t td i z := by
  have := h t td ht
  unfold tdOK at this
  cases hi : P.info? t with
  | none => simp [hi] at this
  | some i =>
    cases hz : i.zero with
    | none => simp [hi, hz] at this
    | some z =>
      simp only [hi, hz, Bool.and_eq_true, beq_iff_eq, Bool.or_eq_true] at this
      obtain ⟨⟨⟨⟨h1, h2⟩, ⟨h3, h4⟩, h7⟩, h5⟩, h6⟩ := this
      exact ⟨i, z, hi, h1, h2, hz, h3, h4, h7, h5, h6⟩

namespace TdGives
variable {t : TypeId} {td : TD} {i : TypeInfo} {z : Value}

theorem run_typeInfo (h : TdGives P t td i z) (w : World) : (typeInfo t).run P w = .ok i w := by simp [typeInfo, h.info]
theorem run_sizeOf (h : TdGives P t td i z) (w : World) : (sizeOf t).run P w = .ok td.size w := by simp [sizeOf, typeInfo, h.info, h.size]
theorem run_zeroValue (h : TdGives P t td i z) (w : World) : (zeroValue t).run P w = .ok z w := by simp [zeroValue, typeInfo, h.info, h.zero]
theorem zrep {T : TypeId} (h : TdGives P t td i z) : RepL T I w ρ td.z z.cells.toList := zeqL_rep _ _ h.zeq

theorem under (h : TdGives P t td i z) : ∃ d, P.underlying t = some d ∧ (td.desc.agg = true ↔ (∃ fs, d = .struct fs) ∨ ∃ n e, d = .array n e) := by
  have hd := h.desc
  cases hu : P.underlying t with
  | none => cases hd' : td.desc <;> simp [hd', descOK, hu] at hd
  | some d =>
    refine ⟨d, rfl, ?_⟩
    cases hd' : td.desc <;> simp only [hd', descOK, hu] at hd <;> cases d <;> simp_all [TDesc.agg]

theorem run_isAgg (h : TdGives P t td i z) (w : World) : (isAgg t).run P w = .ok td.desc.agg w := by
  obtain ⟨d, hu, hd⟩ := h.under
  have hr : (underlying t).run P w = .ok d w := by simp [underlying, hu]
  unfold isAgg
  simp only [Sem.run_bind, hr, Result.andThen_ok]
  cases ha : td.desc.agg with
  | true =>
    rcases hd.1 ha with ⟨fs, rfl⟩ | ⟨n, e, rfl⟩ <;> rfl
  | false =>
    cases d <;> first
      | rfl
      | (rw [hd.2 (.inl ⟨_, rfl⟩)] at ha; cases ha)
      | (rw [hd.2 (.inr ⟨_, _, rfl⟩)] at ha; cases ha)

theorem int (h : TdGives P t td i z) {k : IntKind} (hd : td.desc = .int k) : P.underlying t = some (.int k) := by
  have := h.desc; rw [hd] at this; unfold descOK at this; simp only at this
  cases hu : P.underlying t with
  | none => simp [hu] at this
  | some d => cases d <;> simp_all
theorem bool (h : TdGives P t td i z) (hd : td.desc = .bool) : P.underlying t = some .bool := by
  have := h.desc; rw [hd] at this; unfold descOK at this; simp only at this
  cases hu : P.underlying t with
  | none => simp [hu] at this
  | some d => cases d <;> simp_all
theorem iface (h : TdGives P t td i z) (hd : td.desc = .iface) : ∃ ms, P.underlying t = some (.interface ms) := by
  have := h.desc; rw [hd] at this; unfold descOK at this; simp only at this
  cases hu : P.underlying t with
  | none => simp [hu] at this
  | some d => cases d <;> simp_all
theorem ptr (h : TdGives P t td i z) (hd : td.desc = .ptr) : ∃ e, P.underlying t = some (.pointer e) := by
  have := h.desc; rw [hd] at this; unfold descOK at this; simp only at this
  cases hu : P.underlying t with
  | none => simp [hu] at this
  | some d => cases d <;> simp_all
theorem slice (h : TdGives P t td i z) {e : TypeId} (hd : td.desc = .slice e) : P.underlying t = some (.slice e) := by
  have := h.desc; rw [hd] at this; unfold descOK at this; simp only at this
  cases hu : P.underlying t with
  | none => simp [hu] at this
  | some d => cases d <;> simp_all
theorem array (h : TdGives P t td i z) {n : Nat} {e : TypeId} (hd : td.desc = .array n e) : P.underlying t = some (.array n e) := by
  have := h.desc; rw [hd] at this; unfold descOK at this; simp only at this
  cases hu : P.underlying t with
  | none => simp [hu] at this
  | some d => cases d <;> simp_all
theorem arrayEq (h : TdGives P t td i z) {n : Nat} {e : TypeId} (hd : td.desc = .array n e) : arrFine P t e = true := by
  have := h.desc; rw [hd] at this; unfold descOK at this; simp only at this
  cases hu : P.underlying t with
  | none => simp [hu] at this
  | some d =>
    cases d <;> simp_all
    rw [← this.1.1.2]; exact this.2
theorem struct (h : TdGives P t td i z) {fs : List (Nat × Nat × TypeId)} (hd : td.desc = .struct fs) : ∃ fields, P.underlying t = some (.struct fields) ∧
    (fields.toList.mapM fun f => (P.info? f.type).map fun i => (f.offset, i.size, f.type)) = some fs := by
  have := h.desc; rw [hd] at this; unfold descOK at this; simp only at this
  cases hu : P.underlying t with
  | none => simp [hu] at this
  | some d => cases d <;> simp_all
theorem structEq (h : TdGives P t td i z) {fs : List (Nat × Nat × TypeId)} (hd : td.desc = .struct fs) : ∃ fields, P.underlying t = some (.struct fields) ∧
    (fields.toList.mapM fun f => (P.info? f.type).map fun i => (f.offset, i.size, f.type)) = some fs ∧ (fields.toList.all (simpleF P) = true → eqFine P t fields = true) := by
  have := h.desc; rw [hd] at this; unfold descOK at this; simp only at this
  cases hu : P.underlying t with
  | none => simp [hu] at this
  | some d =>
    cases d with
    | struct fields =>
      simp only [hu, Bool.and_eq_true, Bool.or_eq_true, Bool.not_eq_true', beq_iff_eq] at this
      refine ⟨fields, rfl, this.1, fun hs => ?_⟩
      rcases this.2 with h1 | h1
      · rw [hs] at h1; cases h1
      · exact h1
    | _ => simp_all
end TdGives

/-- A struct's field, by its number. -/
theorem mapM_look {P : Program} : ∀ {fields : List Field} {fs : List (Nat × Nat × TypeId)}, (fields.mapM fun f => (P.info? f.type).map fun i => (f.offset, i.size, f.type)) = some fs →
    fields.length = fs.length ∧ ∀ k, k < fs.length → ∃ f i, fields[k]? = some f ∧ P.info? f.type = some i ∧ lookF fs k = (f.offset, i.size, f.type)
  | [], fs, h => by simp at h; subst h; simp
  | f :: r, fs, h => by
    simp only [List.mapM_cons, Option.bind_eq_bind, Option.pure_def] at h
    cases hi : P.info? f.type with
    | none => simp [hi] at h
    | some i =>
      cases hr : r.mapM (fun f => (P.info? f.type).map fun i => (f.offset, i.size, f.type)) with
      | none => simp [hi, hr] at h
      | some rest =>
        simp [hi, hr] at h
        subst h
        obtain ⟨hl, hk⟩ := mapM_look hr
        refine ⟨by simp [hl], fun k hk' => ?_⟩
        cases k with
        | zero => exact ⟨f, i, by simp, hi, rfl⟩
        | succ k => simpa [lookF] using hk k (by simpa using hk')
end Go.Proofs.Ytbhbjmneglkgnaa.AI
