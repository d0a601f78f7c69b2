/- The evaluator's operations are the model's: those that make and change no memory. Conditions: none. -/
import Derived.Test.YtalppnldnahmbaaAiTab
import Derived.WalkSpells
import Derived.WalkLawsBesides
namespace Go.Proofs.Ytalppnldnahmbaa.AI
open Go Go.RowKit

/-- A result without a change of the world. -/
def ValOK (T : TypeId) (I : Nat → Nat → Prop) (w : World) (ρ : Nat → Place) (P : Program) (s : Sem Value) : R0 → Prop
  | .no => True
  | .val v => ∃ x, s.run P w = .ok x w ∧ Rep T I w ρ v x
  | .valc p v => p → ∃ x, s.run P w = .ok x w ∧ Rep T I w ρ v x
  | .eff .. => True

variable {P : Program} {E : Env} {ρ : Nat → Place} {I : Nat → Nat → Prop} {w : World}

theorem rep_int {T : TypeId} {k : IntKind} {n : Int} {v : Value} : Rep T I w ρ (.int k n) v ↔ v = .int k n := by simp [Rep, Rep2, Rep1]
theorem rep_bit {T : TypeId} {b : Bool} {v : Value} : Rep T I w ρ (.bit b) v ↔ v = .bool b := by simp [Rep, Rep2, Rep1]
theorem rep_nilI {T : TypeId} {v : Value} : Rep T I w ρ .nilI v ↔ v = .nilIface := by simp [Rep, Rep2, Rep1]
theorem rep_err {T : TypeId} {n : Int} {v : Value} : Rep T I w ρ (.err n) v ↔ v = errV T n := by simp [Rep, Rep2, Rep1]
theorem rep_nilS {T : TypeId} {v : Value} : Rep T I w ρ .nilS v ↔ v = .slice none 0 0 := by simp [Rep, Rep2, Rep1]

theorem tab_iface (h : TabOK P E) {t : TypeId} {s b : Nat} {z : List AV} (ht : E.tab t = some ⟨.iface, s, b, z⟩) : ∃ ms, P.underlying t = some (.interface ms) := by
  obtain ⟨i, z, g⟩ := h.gives ht
  exact g.iface rfl
theorem tab_bool (h : TabOK P E) {t : TypeId} {s b : Nat} {z : List AV} (ht : E.tab t = some ⟨.bool, s, b, z⟩) : P.underlying t = some .bool := by
  obtain ⟨i, z, g⟩ := h.gives ht
  exact g.bool rfl

theorem run_isnil {t : TypeId} {ms : Array (String × TypeId)} (h : P.underlying t = some (.interface ms)) (v : Value) (hv : v = .nilIface ∨ ∃ u x, v = .iface u x) :
    (Op.equal t v .nilIface).run P w = .ok (match v with | .nilIface => true | _ => false) w := by
  have key : ∀ d : Nat, (Op.equalIn (d + 1) t v .nilIface).run P w = .ok (match v with | .nilIface => true | _ => false) w := fun d => by
    rcases hv with rfl | ⟨u, x, rfl⟩ <;> simp [Op.equalIn, run_underlying h]
  exact key 9999

theorem errV_cases (T : TypeId) (n : Int) : (n = 0 ∧ errV T n = .nilIface) ∨ (n ≠ 0 ∧ errV T n = .iface T (.int .i64 n)) := by
  unfold errV
  by_cases h : n = 0 <;> simp [h]

/-- '==' and '!=' of an error and the literal nil. -/
theorem run_eqnil (h : TabOK P E) {t : TypeId} {s b : Nat} {z : List AV} (ht : E.tab t = some ⟨.iface, s, b, z⟩) {n : Int} (T : TypeId) (xo : Operand) :
    (do eqGuard .eql t xo (.const .nilIface) (errV T n) .nilIface; binOp .eql t (errV T n) .nilIface : Sem Value).run P w = .ok (.bool (decide (n = 0))) w := by
  obtain ⟨ms, hms⟩ := tab_iface h ht
  rcases errV_cases T n with ⟨h0, he⟩ | ⟨h0, he⟩
  · rw [he]
    simp [eqGuard, binOp, run_isnil hms .nilIface (.inl rfl), h0]
  · rw [he]
    simp [eqGuard, binOp, run_isnil hms (.iface T (.int .i64 n)) (.inr ⟨_, _, rfl⟩), h0]
theorem run_neqnil (h : TabOK P E) {t : TypeId} {s b : Nat} {z : List AV} (ht : E.tab t = some ⟨.iface, s, b, z⟩) {n : Int} (T : TypeId) (xo : Operand) :
    (do eqGuard .neq t xo (.const .nilIface) (errV T n) .nilIface; binOp .neq t (errV T n) .nilIface : Sem Value).run P w = .ok (.bool (!decide (n = 0))) w := by
  obtain ⟨ms, hms⟩ := tab_iface h ht
  rcases errV_cases T n with ⟨h0, he⟩ | ⟨h0, he⟩
  · rw [he]
    simp [eqGuard, binOp, run_isnil hms .nilIface (.inl rfl), h0]
  · rw [he]
    simp [eqGuard, binOp, run_isnil hms (.iface T (.int .i64 n)) (.inr ⟨_, _, rfl⟩), h0]

theorem isNilConst_eq {y : Operand} (h : isNilConst y = true) : y = .const .nilIface := by
  unfold isNilConst at h
  split at h <;> simp_all

theorem abin_sound (h : TabOK P E) (op : BinOp) (t : TypeId) (xo yo : Operand) (x y : AV) (a b : Value) (hx : Rep E.errT I w ρ x a) (hy : Rep E.errT I w ρ y b) :
    ValOK E.errT I w ρ P (do eqGuard op t xo yo a b; binOp op t a b) (abin E op t (isNilConst yo) x y) := by
  unfold abin
  split <;> first
    | (rw [rep_int] at hx hy; subst hx; subst hy
       simp only [ValOK, rep_int, rep_bit]
       first
         | (refine ⟨_, ?_, rfl⟩; simp [eqGuard, binOp, Op.intArith, Op.intCmp, wr]; done)
         | (intro hp; refine ⟨_, ?_, rfl⟩; simp [eqGuard, binOp, Op.intDiv, hp, wr]; done)
         | (intro hp; refine ⟨_, ?_, rfl⟩; simp [eqGuard, binOp, Op.shift, Int.not_lt.2 hp, wr, IntKind.bits]; done)
         | exact ⟨_, rfl, rfl⟩)
    | skip
  · rw [rep_err] at hx; rw [rep_nilI] at hy; subst hx; subst hy
    split
    · rename_i hn ht
      rw [isNilConst_eq hn]
      exact ⟨_, run_eqnil h ht _ _, rep_bit.2 rfl⟩
    · trivial
  · rw [rep_err] at hx; rw [rep_nilI] at hy; subst hx; subst hy
    split
    · rename_i hn ht
      rw [isNilConst_eq hn]
      exact ⟨_, run_neqnil h ht _ _, rep_bit.2 rfl⟩
    · trivial
  · rw [rep_nilI] at hx hy; subst hx; subst hy
    split
    · rename_i hn ht
      rw [isNilConst_eq hn]
      have := run_eqnil (w := w) h ht (n := 0) E.errT xo
      exact ⟨_, this, rep_bit.2 rfl⟩
    · trivial
  · rw [rep_nilI] at hx hy; subst hx; subst hy
    split
    · rename_i hn ht
      rw [isNilConst_eq hn]
      have := run_neqnil (w := w) h ht (n := 0) E.errT xo
      exact ⟨_, this, rep_bit.2 rfl⟩
    · trivial
  · rw [rep_bit] at hx hy; subst hx; subst hy
    split
    · rename_i ht
      exact ⟨_, by simp [eqGuard, run_eql_bool _ t _ _ (tab_bool h ht)], rep_bit.2 rfl⟩
    · trivial
  · rw [rep_bit] at hx hy; subst hx; subst hy
    split
    · rename_i ht
      exact ⟨_, by simp [eqGuard, run_neq_bool _ t _ _ (tab_bool h ht)], rep_bit.2 rfl⟩
    · trivial
  · trivial
end Go.Proofs.Ytalppnldnahmbaa.AI
