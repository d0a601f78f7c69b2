/- A step of a region in the evaluator's states; two steps change places. Conditions: none. -/
import Derived.Test.YtbhbjmneglkgnaaAiComm
namespace Go.Proofs.Ytbhbjmneglkgnaa.AI
open Go Go.RowKit

variable {E : Env} {m m' : Nat → Option Row}

/-- What the operation leaves, where it is no store. -/
def prodR : R0 → AV → Option Row → (Nat → Nat → Nat) → Prop
  | .no, _, _, _ => False
  | .val v', v, new, fz => v = v' ∧ new = none ∧ fz = fz0
  | .valc p v', v, new, fz => p ∧ v = v' ∧ new = none ∧ fz = fz0
  | .eff p v' _ new' fz', v, new, fz => (∀ q, p = some q → q) ∧ v = v' ∧ new = new' ∧ fz = fz'

/-- How a state of a row may turn: not at all; from 0 to 1; to 2. -/
def FzKind (fz : Nat → Nat → Nat) (id : Nat) : Prop := (∀ s, fz id s = s) ∨ (∀ s, fz id s = if s = 0 then 1 else s) ∨ ∀ s, fz id s = 2

theorem fzB_kind (fl : Nat → Bool) (id : Nat) : FzKind (fzB fl) id := by
  cases h : fl id with
  | false => left; intro s; simp [fzB, h]
  | true =>
    right; left
    intro s
    cases s <;> simp [fzB, h]
theorem fzApp_kind (r id : Nat) : FzKind (fzApp r) id := by
  cases h : Nat.beq id r with
  | false => left; intro s; simp [fzApp, h]
  | true => right; right; intro s; simp [fzApp, h]

/-- What is known of an operation's effect on the rows' states. -/
structure FzOK (m : Nat → Option Row) (op : Op) (ev : Operand → AV) (fz : Nat → Nat → Nat) : Prop where
  kind : ∀ id, FzKind fz id
  quiet : ∀ id, (∀ x ∈ op.operands, hasId id (ev x) = false) → ∀ s, fz id s = s
  plain : apT op ev = none → ∀ id s, Nat.ble (fz id s) 1 = Nat.ble s 1
  app : ∀ id, apT op ev = some id → fz = fzApp id ∧ ∃ r, m id = some r ∧ Nat.ble r.st 1 = true

theorem ble_fzB (fl : Nat → Bool) (id s : Nat) : Nat.ble (fzB fl id s) 1 = Nat.ble s 1 := by
  rcases fzB_cases fl id s with h | ⟨_, h0, h⟩
  · rw [h]
  · rw [h, h0]; rfl

theorem fzOK_B {op : Op} {ev : Operand → AV} {fl : Nat → Bool} (hq : ∀ id, (∀ x ∈ op.operands, hasId id (ev x) = false) → fl id = false) (ha : apT op ev = none) : FzOK m op ev (fzB fl) :=
  ⟨fzB_kind fl, fun id h s => by simp [fzB, hq id h], fun _ id s => ble_fzB fl id s, fun id h => by rw [ha] at h; cases h⟩
theorem fzOK_0 {op : Op} {ev : Operand → AV} (ha : apT op ev = none) : FzOK m op ev fz0 := by
  rw [fz0_eq]; exact fzOK_B (fun _ _ => rfl) ha

theorem hasIdL_false {id : Nat} {ev : Operand → AV} {l : List Operand} (h : ∀ x ∈ l, hasId id (ev x) = false) : hasIdL id (l.map ev) = false := by
  cases hb : hasIdL id (l.map ev) with
  | false => rfl
  | true =>
    obtain ⟨x, hx, h1⟩ := hasIdL_map hb
    rw [h x hx] at h1; cases h1

theorem prod_fz {op : Op} {d : Nat} {ev : Operand → AV} {v : AV} {new : Option Row} {fz : Nat → Nat → Nat} (h : prodR (aop E op d ev m) v new fz) : FzOK m op ev fz := by
  have easy : ∀ {r : R0}, apT op ev = none → prodR r v new fz → (∀ p v k n f, r ≠ .eff p v k n f) → FzOK m op ev fz := by
    intro r ha hp hr
    cases r with
    | no => exact hp.elim
    | val v' => rw [hp.2.2]; exact fzOK_0 ha
    | valc p v' => rw [hp.2.2.2]; exact fzOK_0 ha
    | eff p v' k n f => exact absurd rfl (hr _ _ _ _ _)
  cases op with
  | alloc e =>
    simp only [aop] at h
    split at h
    · rw [h.2.2.2]; exact fzOK_0 rfl
    · exact h.elim
  | box e x =>
    simp only [aop] at h
    split at h
    · split at h
      · rw [h.2.2.2]; exact fzOK_0 rfl
      · exact h.elim
    · exact h.elim
  | buildSlice t n ps =>
    simp only [aop] at h
    split at h
    · split at h
      · split at h
        · rw [h.2.2.2, fzArgs_eq]
          refine fzOK_B (fun id hid => ?_) rfl
          cases hb : hasIdL id (ps.toList.map fun p => ev p.2) with
          | false => rfl
          | true =>
            have e : (ps.toList.map fun p => ev p.2) = (ps.toList.map (·.2)).map ev := by simp
            rw [e] at hb
            obtain ⟨x, hx, h1⟩ := hasIdL_map hb
            rw [hid x (by simpa [Op.operands] using hx)] at h1; cases h1
        · exact h.elim
      · exact h.elim
    · exact h.elim
  | makeSlice t l c =>
    simp only [aop] at h
    split at h
    · split at h
      · split at h
        · rw [h.2.2.2]; exact fzOK_0 rfl
        · exact h.elim
      · exact h.elim
    · exact h.elim
  | slice t x lo hi mx =>
    cases mx with
    | some _ => exact h.elim
    | none =>
      simp only [aop] at h
      have key : fz = fz0 ∨ ∃ id, fz = fzId id ∧ hasId id (ev x) = true := by
        unfold aslice at h
        split at h
        · split at h
          · split at h
            · split at h
              · unfold sliceOf at h
                split at h <;> first
                  | exact h.elim
                  | exact .inl h.2.2.2
              · exact h.elim
            · split at h
              · split at h
                · exact .inl h.2.2.2
                · exact h.elim
              · exact h.elim
            · rename_i id n _
              split at h
              · split at h
                · unfold sliceOf at h
                  split at h <;> first
                    | exact h.elim
                    | exact .inr ⟨id, h.2.2.2, by simp_all [hasId]⟩
                · exact h.elim
              · exact h.elim
            · exact h.elim
          · exact h.elim
        · split at h
          · split at h
            · split at h
              · exact .inr ⟨_, h.2.2.2, by simp_all [hasId]⟩
              · exact h.elim
            · exact h.elim
          · exact h.elim
        · exact h.elim
      rcases key with rfl | ⟨id, rfl, hid⟩
      · exact fzOK_0 rfl
      · rw [fzId_eq]
        refine fzOK_B (fun id' hq => ?_) rfl
        cases hb : Nat.beq id' id with
        | false => rfl
        | true =>
          have := Nat.eq_of_beq_eq_true hb
          subst this
          rw [hq x (by simp [Op.operands])] at hid; cases hid
  | call c =>
    obtain ⟨callee, args, ats⟩ := c
    simp only [aop] at h
    cases callee with
    | invoke r n => exact h.elim
    | value fo =>
      simp only [acall] at h
      split at h
      · rename_i f first caps hf
        have hargs : FzOK m (.call { callee := .value fo, args := args, argTypes := ats }) ev (fzArgs (first ++ args.toList.map ev ++ caps)) := by
          rw [fzArgs_eq]
          refine fzOK_B (fun id hid => ?_) rfl
          have h1 := hid fo (by simp [Op.operands, Call.operands])
          rw [hf] at h1
          simp only [hasId, Bool.or_eq_false_iff] at h1
          simp only [hasIdL_append, h1.1, h1.2, Bool.false_or, Bool.or_false]
          exact hasIdL_false fun x hx => hid x (by simp [Op.operands, Call.operands, Array.mem_toList_iff.1 hx])
        split at h <;> first
          | exact h.elim
          | (rw [h.2.2.2]; exact hargs)
          | (split at h
             · rw [h.2.2.2]; exact fzOK_0 rfl
             · exact h.elim)
      · exact h.elim
    | builtin b =>
      cases b with
      | append =>
        simp only [acall] at h
        split at h
        · rename_i s x t t' hl _
          unfold aapp at h
          split at h
          · split at h
            · split at h
              · split at h
                · rw [h.2.2.2]; exact fzOK_0 (by simp [apT, hl])
                · rename_i id n
                  split at h
                  · rename_i re sz rn f st hm
                    split at h
                    · rename_i c1 c2 c3
                      have hm' : m id = some ⟨re, sz, rn, f, st, false⟩ := hm
                      have hap : apT (.call { callee := .builtin .append, args := args, argTypes := ats }) ev = some id := by simp [apT, hl]
                      rw [h.2.2.2]
                      refine ⟨fzApp_kind id, fun id' hq s => ?_, (fun hn => by rw [hap] at hn; cases hn), fun id' hid => ?_⟩
                      · have : Nat.beq id' id = false := by
                          cases hb : Nat.beq id' id with
                          | false => rfl
                          | true =>
                            have := Nat.eq_of_beq_eq_true hb
                            subst this
                            have hmem : ∃ so ∈ args.toList, ev so = .own id' n := by
                              cases ha : args.toList with
                              | nil => rw [ha] at hl; cases hl
                              | cons so r =>
                                rw [ha] at hl
                                simp only [List.map_cons, List.cons.injEq] at hl
                                exact ⟨so, by simp, hl.1⟩
                            obtain ⟨so, hso, he⟩ := hmem
                            have := hq so (by simp [Op.operands, Call.operands, Array.mem_toList_iff.1 hso])
                            rw [he] at this
                            simp [hasId] at this
                        simp [fzApp, this]
                      · rw [hap] at hid
                        injection hid with hid
                        subst hid
                        refine ⟨rfl, _, hm', ?_⟩
                        have : apOK (rowOf m (.own id n)) = true := c3
                        rw [hm] at this
                        exact this
                    · exact h.elim
                  · exact h.elim
                · exact h.elim
              · exact h.elim
            · exact h.elim
          · exact h.elim
        · exact h.elim
      | _ => exact easy rfl h (fun p v k n f e => by
          simp only [acall] at e
          repeat' (split at e)
          all_goals cases e)
  | build t ps => exact easy rfl h (fun p v k n f e => by
      simp only [aop] at e
      repeat' (split at e)
      all_goals cases e)
  | unOp u t x => exact easy rfl h (fun p v k n f e => by
      cases u <;> simp only [aop] at e <;> first
        | cases e
        | (split at e <;> cases e))
  | makeFunc fn a b => exact easy rfl h (fun p v k n f e => by
      cases fn <;> simp only [aop] at e <;> first
        | cases e
        | (split at e <;> cases e))
  | typeAssert x t a ok => exact easy rfl h (fun p v k n f e => by
      cases ok <;> simp only [aop] at e <;> first
        | cases e
        | (split at e <;> cases e))
  | binOp b t x y ty => exact easy rfl h (fun p v k n f e => by
      simp only [aop, abin] at e
      repeat' (split at e)
      all_goals cases e)
  | load t x => exact easy rfl h (fun p v k n f e => by
      simp only [aop, aload] at e
      repeat' (split at e)
      all_goals cases e)
  | indexAddr t x y => exact easy rfl h (fun p v k n f e => by
      simp only [aop, aindex] at e
      repeat' (split at e)
      all_goals cases e)
  | _ => exact easy rfl h (fun p v k n f e => by
      simp only [aop] at e
      repeat' (split at e)
      all_goals cases e)
end Go.Proofs.Ytbhbjmneglkgnaa.AI
