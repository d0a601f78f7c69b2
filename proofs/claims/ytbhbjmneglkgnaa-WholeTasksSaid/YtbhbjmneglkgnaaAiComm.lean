/- Two operations of a region, neither of which waits for the other: they may change places. Conditions: none. -/
import Derived.Test.YtbhbjmneglkgnaaAiSound
namespace Go.Proofs.Ytbhbjmneglkgnaa.AI
open Go Go.RowKit

variable {E : Env} {m m' : Nat → Option Row}

/-- The row that an append goes on. -/
def apT (op : Op) (ev : Operand → AV) : Option Nat :=
  match op with
  | .call c => match c.callee with
    | .builtin .append => match c.args.toList.map ev with
      | .own id _ :: _ => some id
      | _ => none
    | _ => none
  | _ => none

/-- The same row but for its state. -/
def CoreEq (m m' : Nat → Option Row) (id : Nat) : Prop :=
  (m id = none ∧ m' id = none) ∨ ∃ e sz n f s s' bx, m id = some ⟨e, sz, n, f, s, bx⟩ ∧ m' id = some ⟨e, sz, n, f, s', bx⟩

mutual
theorem pure1_core : ∀ (v : AV), (∀ id, hasId id v = true → CoreEq m m' id) → pure1 m v = pure1 m' v
  | .own id n, h => by
    rcases h id (by simp [hasId]) with ⟨h1, h2⟩ | ⟨e, sz, n', f, s, s', bx, h1, h2⟩
    · simp [pure1, h1, h2]
    · cases bx <;> simp [pure1, h1, h2]
  | .loc id j, h => by
    rcases h id (by simp [hasId]) with ⟨h1, h2⟩ | ⟨e, sz, n', f, s, s', bx, h1, h2⟩ <;> simp [pure1, h1, h2]
  | .elt id i j k, h => by
    rcases h id (by simp [hasId]) with ⟨h1, h2⟩ | ⟨e, sz, n', f, s, s', bx, h1, h2⟩ <;> simp [pure1, h1, h2]
  | .clo f a b, h => by
    simp only [pure1]
    rw [pureL_core a (fun id hid => h id (by simp [hasId, hid])), pureL_core b (fun id hid => h id (by simp [hasId, hid]))]
  | .agg cs, h => by simp only [pure1]; rw [pureL_core cs (fun id hid => h id (by simp [hasId, hid]))]
  | .tup vs, h => by simp only [pure1]; rw [pureL_core vs (fun id hid => h id (by simp [hasId, hid]))]
  | .bad, _ => rfl
  | .int _ _, _ => rfl
  | .bit _, _ => rfl
  | .str _, _ => rfl
  | .nilI, _ => rfl
  | .err _, _ => rfl
  | .nilP, _ => rfl
  | .nilS, _ => rfl
  | .nilF, _ => rfl
  | .sl _ _ _, _ => rfl
  | .qs _ _ _, _ => rfl
  | .iref _ _, _ => rfl
theorem pureL_core : ∀ (l : List AV), (∀ id, hasIdL id l = true → CoreEq m m' id) → pureL m l = pureL m' l
  | [], _ => rfl
  | v :: r, h => by
    simp only [pureL]
    rw [pure1_core v (fun id hid => h id (by simp [hasIdL, hid])), pureL_core r (fun id hid => h id (by simp [hasIdL, hid]))]
end

theorem hasIdL_append (id : Nat) : ∀ (a b : List AV), hasIdL id (a ++ b) = (hasIdL id a || hasIdL id b)
  | [], b => by simp [hasIdL]
  | x :: r, b => by simp [hasIdL, hasIdL_append id r b, Bool.or_assoc]
theorem hasIdL_map {id : Nat} {ev : Operand → AV} : ∀ {l : List Operand}, hasIdL id (l.map ev) = true → ∃ x ∈ l, hasId id (ev x) = true
  | [], h => by simp [hasIdL] at h
  | x :: r, h => by
    simp only [List.map_cons, hasIdL, Bool.or_eq_true] at h
    rcases h with h | h
    · exact ⟨x, by simp, h⟩
    · obtain ⟨y, hy, h⟩ := hasIdL_map h
      exact ⟨y, by simp [hy], h⟩

/-- The same row but for its state. -/
def RowCore (r r' : Option Row) : Prop := (r = none ∧ r' = none) ∨ ∃ e sz n f s s' bx, r = some ⟨e, sz, n, f, s, bx⟩ ∧ r' = some ⟨e, sz, n, f, s', bx⟩

theorem rowOf_core {x : AV} (h : ∀ id, hasId id x = true → CoreEq m m' id) : RowCore (rowOf m x) (rowOf m' x) := by
  cases x <;> first
    | exact h _ (by simp [hasId])
    | exact .inl ⟨rfl, rfl⟩

theorem aindex_core {t : TypeId} {x ix : AV} {ci : Option Nat} {r r' : Option Row} (h : RowCore r r') : aindex E t x ix ci r = aindex E t x ix ci r' := by
  rcases h with ⟨rfl, rfl⟩ | ⟨e, sz, n, f, s, s', bx, rfl, rfl⟩ <;> rfl
theorem aload_core {t : TypeId} {x : AV} {r r' : Option Row} (h : RowCore r r') : aload E t x r = aload E t x r' := by
  rcases h with ⟨rfl, rfl⟩ | ⟨e, sz, n, f, s, s', bx, rfl, rfl⟩ <;> rfl
theorem aslice_core {t : TypeId} {x : AV} {lo hi : Option AV} {r r' : Option Row} (h : RowCore r r') : aslice E t x lo hi r = aslice E t x lo hi r' := by
  rcases h with ⟨rfl, rfl⟩ | ⟨e, sz, n, f, s, s', bx, rfl, rfl⟩
  · rfl
  · cases bx <;> rfl
theorem newsOf_core {ts : Nat} {x : AV} {r r' : Option Row} (h : RowCore r r') : newsOf ts x r = newsOf ts x r' := by
  rcases h with ⟨rfl, rfl⟩ | ⟨e, sz, n, f, s, s', bx, rfl, rfl⟩
  · rfl
  · cases bx <;> rfl
theorem aapp_core {t t' : TypeId} {s x : AV} {d : Nat} {r r' q q' : Option Row} {ab : Bool} (h : RowCore r r') (h' : RowCore q q') : aapp E t t' s x d r q ab = aapp E t t' s x d r' q' ab := by
  have e1 : aapp E t t' s x d r q ab = aapp E t t' s x d r' q ab := by
    rcases h with ⟨rfl, rfl⟩ | ⟨e, sz, n, f, s, s', bx, rfl, rfl⟩
    · rfl
    · cases bx <;> rfl
  rw [e1]
  rcases h' with ⟨rfl, rfl⟩ | ⟨e, sz, n, f, s, s', bx, rfl, rfl⟩
  · rfl
  · cases bx <;> rfl

theorem acall_core {c : Call} {d : Nat} {ev : Operand → AV} (h : ∀ x ∈ c.operands, ∀ id, hasId id (ev x) = true → CoreEq m m' id)
    (hst : ∀ id, apT (.call c) ev = some id → ∀ r r', m id = some r → m' id = some r' → Nat.ble r.st 1 = Nat.ble r'.st 1) : acall E c d ev m = acall E c d ev m' := by
  obtain ⟨callee, args, ats⟩ := c
  cases callee with
  | value fo =>
    have hfo := h fo (by simp [Call.operands])
    simp only [acall]
    cases hf : ev fo with
    | clo f first caps =>
      rw [hf] at hfo
      have : pureL m (first ++ args.toList.map ev ++ caps) = pureL m' (first ++ args.toList.map ev ++ caps) := pureL_core _ fun id hid => by
        simp only [hasIdL_append, Bool.or_eq_true] at hid
        rcases hid with (hid | hid) | hid
        · exact hfo id (by simp [hasId, hid])
        · obtain ⟨x, hx, hid⟩ := hasIdL_map hid
          exact h x (by simp [Call.operands, Array.mem_toList_iff.1 hx]) id hid
        · exact hfo id (by simp [hasId, hid])
      simp only [this]
    | _ => rfl
  | invoke r n => rfl
  | builtin b =>
    cases b with
    | append =>
      simp only [acall]
      split
      · rename_i s x t t' hl _
        match ha : args.toList, hl with
        | [so, xo], hl =>
          simp only [List.map_cons, List.map_nil, List.cons.injEq, and_true] at hl
          obtain ⟨rfl, rfl⟩ := hl
          have hm1 : so ∈ args := Array.mem_toList_iff.1 (by rw [ha]; simp)
          have hm2 : xo ∈ args := Array.mem_toList_iff.1 (by rw [ha]; simp)
          have hb : apOK (rowOf m (ev so)) = apOK (rowOf m' (ev so)) ∨ aapp E t t' (ev so) (ev xo) d (rowOf m' (ev so)) (rowOf m' (ev xo)) (apOK (rowOf m (ev so))) = aapp E t t' (ev so) (ev xo) d (rowOf m' (ev so)) (rowOf m' (ev xo)) (apOK (rowOf m' (ev so))) := by
            cases hs : ev so with
            | own id n =>
              left
              rcases rowOf_core (h so (by simp [Call.operands, hm1])) with ⟨h1, h2⟩ | ⟨e, sz, n', f, st, st', bx, h1, h2⟩
              · rw [hs] at h1 h2; rw [h1, h2]
              · rw [hs] at h1 h2
                rw [h1, h2]
                exact hst id (by simp [apT, ha, hs]) _ _ h1 h2
            | _ => right; rfl
          rw [aapp_core (rowOf_core (h so (by simp [Call.operands, hm1]))) (rowOf_core (h xo (by simp [Call.operands, hm2])))]
          rcases hb with hb | hb
          · rw [hb]
          · exact hb
      · rfl
    | _ => rfl

theorem aop_core {op : Op} {d : Nat} {ev : Operand → AV} (h : ∀ x ∈ op.operands, ∀ id, hasId id (ev x) = true → CoreEq m m' id)
    (hst : ∀ id, apT op ev = some id → ∀ r r', m id = some r → m' id = some r' → Nat.ble r.st 1 = Nat.ble r'.st 1) : aop E op d ev m = aop E op d ev m' := by
  cases op with
  | load t x =>
    exact aload_core (rowOf_core (h x (by simp [Op.operands])))
  | indexAddr t x ix => exact aindex_core (rowOf_core (h x (by simp [Op.operands])))
  | slice t x lo hi mx =>
    cases mx with
    | none => exact aslice_core (rowOf_core (h x (by simp [Op.operands])))
    | some _ => rfl
  | buildSlice t n ps =>
    have : ∀ p ∈ ps.toList, pure1 m (ev p.2) = pure1 m' (ev p.2) := fun p hp => pure1_core _ fun id hid => h p.2 (by
      simp only [Op.operands, List.mem_toArray, List.mem_map]
      exact ⟨p, hp, rfl⟩) id hid
    have e : (ps.toList.map fun p => (p.1, pure1 m (ev p.2))) = ps.toList.map fun p => (p.1, pure1 m' (ev p.2)) := List.map_congr_left fun p hp => by rw [this p hp]
    simp only [aop, e]
  | call c => exact acall_core h hst
  | unOp u t x => cases u <;> rfl
  | makeFunc fn a b => cases fn <;> rfl
  | typeAssert x t a ok => cases ok <;> rfl
  | _ => rfl

theorem evs_congr {ev ev' : Operand → AV} {l : List Operand} (h : ∀ x ∈ l, ev x = ev' x) : l.map ev = l.map ev' := List.map_congr_left h

theorem aop_ev {op : Op} {d : Nat} {ev ev' : Operand → AV} (h : ∀ x ∈ op.operands, ev x = ev' x) : aop E op d ev m = aop E op d ev' m ∧ apT op ev = apT op ev' := by
  cases op with
  | call c =>
    obtain ⟨callee, args, ats⟩ := c
    have hargs : args.toList.map ev = args.toList.map ev' := evs_congr fun x hx => h x (by simp [Op.operands, Call.operands, Array.mem_toList_iff.1 hx])
    cases callee with
    | value fo =>
      have hfo := h fo (by simp [Op.operands, Call.operands])
      simp only [aop, acall, hfo, hargs, apT, and_self]
    | invoke r n => exact ⟨rfl, rfl⟩
    | builtin b =>
      cases b <;> simp only [aop, acall, hargs, apT, and_self]
  | build t ps =>
    have e : (ps.toList.map fun p => (p.1, ev p.2)) = ps.toList.map fun p => (p.1, ev' p.2) := List.map_congr_left fun p hp => by
      rw [h p.2 (by simp only [Op.operands, List.mem_toArray, List.mem_map]; exact ⟨p, hp, rfl⟩)]
    simp only [aop, e, apT, and_self]
  | buildSlice t n ps =>
    have hp' : ∀ p ∈ ps.toList, ev p.2 = ev' p.2 := fun p hp => h p.2 (by simp only [Op.operands, List.mem_toArray, List.mem_map]; exact ⟨p, hp, rfl⟩)
    have e : (ps.toList.map fun p => (p.1, pure1 m (ev p.2))) = ps.toList.map fun p => (p.1, pure1 m (ev' p.2)) := List.map_congr_left fun p hp => by rw [hp' p hp]
    have e2 : (ps.toList.map fun p => ev p.2) = ps.toList.map fun p => ev' p.2 := List.map_congr_left fun p hp => by rw [hp' p hp]
    simp only [aop, e, e2, apT, and_self]
  | makeFunc fn first caps =>
    have e1 : first.toList.map ev = first.toList.map ev' := evs_congr fun x hx => h x (by simp [Op.operands, Array.mem_toList_iff.1 hx])
    have e2 : caps.toList.map ev = caps.toList.map ev' := evs_congr fun x hx => h x (by simp [Op.operands, Array.mem_toList_iff.1 hx])
    cases fn <;> simp only [aop, e1, e2, apT, and_self]
  | slice t x lo hi mx =>
    have hx := h x (by simp [Op.operands])
    have hlo : lo.map ev = lo.map ev' := by
      cases lo with
      | none => rfl
      | some l => simp [h l (by simp [Op.operands])]
    have hhi : hi.map ev = hi.map ev' := by
      cases hi with
      | none => rfl
      | some l => simp [h l (by simp [Op.operands])]
    cases mx <;> simp only [aop, hx, hlo, hhi, apT, and_self]
  | unOp u t x => have hx := h x (by simp [Op.operands]); cases u <;> simp only [aop, hx, apT, and_self]
  | typeAssert x t a ok => have hx := h x (by simp [Op.operands]); cases ok <;> simp only [aop, hx, apT, and_self]
  | move x => have hx := h x (by simp [Op.operands]); simp only [aop, hx, apT, and_self]
  | assign x => have hx := h x (by simp [Op.operands]); simp only [aop, hx, apT, and_self]
  | pick c x y => have h1 := h c (by simp [Op.operands]); have h2 := h x (by simp [Op.operands]); have h3 := h y (by simp [Op.operands]); simp only [aop, h1, h2, h3, apT, and_self]
  | box e x => have hx := h x (by simp [Op.operands]); simp only [aop, hx, apT, and_self]
  | load t x => have hx := h x (by simp [Op.operands]); simp only [aop, hx, apT, and_self]
  | nilCheck x => have hx := h x (by simp [Op.operands]); simp only [aop, hx, apT, and_self]
  | binOp b t x y ty => have h1 := h x (by simp [Op.operands]); have h2 := h y (by simp [Op.operands]); simp only [aop, h1, h2, apT, and_self]
  | convert s t x => have hx := h x (by simp [Op.operands]); simp only [aop, hx, apT, and_self]
  | makeInterface t x => have hx := h x (by simp [Op.operands]); simp only [aop, hx, apT, and_self]
  | makeSlice t x y => have h1 := h x (by simp [Op.operands]); have h2 := h y (by simp [Op.operands]); simp only [aop, h1, h2, apT, and_self]
  | fieldAddr t x f => have hx := h x (by simp [Op.operands]); simp only [aop, hx, apT, and_self]
  | field t x f => have hx := h x (by simp [Op.operands]); simp only [aop, hx, apT, and_self]
  | indexAddr t x y => have h1 := h x (by simp [Op.operands]); have h2 := h y (by simp [Op.operands]); simp only [aop, h1, h2, apT, and_self]
  | index t x y => have h1 := h x (by simp [Op.operands]); have h2 := h y (by simp [Op.operands]); simp only [aop, h1, h2, apT, and_self]
  | extract x i => have hx := h x (by simp [Op.operands]); simp only [aop, hx, apT, and_self]
  | _ => exact ⟨rfl, rfl⟩
end Go.Proofs.Ytbhbjmneglkgnaa.AI
