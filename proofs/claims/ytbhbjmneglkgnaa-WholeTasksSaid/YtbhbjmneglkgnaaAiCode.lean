/- The evaluator of code, and that it is the model's. Conditions: none. -/
import Derived.Test.YtbhbjmneglkgnaaAiLex
import Derived.Lib.SliceRun
namespace Go.Proofs.Ytbhbjmneglkgnaa.AI
open Go Go.RowKit

/-- 'τ' knows no more than 'σ': whatever 'σ' stands for, 'τ' stands for. -/
def Wk (E : Env) (σ τ : St) : Prop := ∀ (N B : Nat) (w0 : World) (I0 : Nat → Nat → Prop) (a : Act) (w : World), Rel E N B w0 I0 σ a w → Rel E N B w0 I0 τ a w

/-- What is known of the Bools in temporaries. -/
def KBok (σ : St) (kb : KB) : Prop := ∀ d b, kb d = some b → σ.t d = .bit b

def kb0 : KB := fun _ => none

/-- A loop: a family of states, each round from one to another of a smaller number. -/
structure LoopOK (E : Env) (x : St → KB → (Ex → St → KB → Prop) → Prop) (σ : St) (Q : Ex → St → KB → Prop) : Prop where
  go : ∃ (ι : Type) (st : ι → St) (μ : ι → Nat), (∃ i, Wk E σ (st i)) ∧ ∀ i, x (st i) kb0 (fun e σ' kb => match e with
    | .normal => ∃ i', μ i' < μ i ∧ Wk E σ' (st i')
    | e => Q e σ' kb)

def isNilSl : Operand → Bool
  | .const (.slice none _ _) => true
  | _ => false
/-- A comparison with a nil slice. -/
def nilOp (o : Oper) : Option (Nat × TypeId × Operand) :=
  match o.guard, o.dst, o.op with
  | none, some d, .binOp .eql ty x y _ => match isNilSl y with
    | true => some (d, ty, x)
    | false => none
  | _, _, _ => none
/-- A slice of the world, compared with nil: its temporary and the slice's length. -/
def nilCmp (E : Env) (o : Oper) (t : Nat → AV) : Option (Nat × Nat) :=
  match nilOp o with
  | none => none
  | some (d, ty, x) => match E.tab ty, evO t x with
    | some ⟨.slice _, _, _, _⟩, .sl _ n _ => some (d, n)
    | _, _ => none
/-- A call whose contract gives two new rows: marked by the contract's answer to no arguments. -/
def two? (E : Env) (f : FuncId) : Bool := match E.spec f [] with
  | .new2 .. => true
  | _ => false
def callOp (E : Env) (o : Oper) : Option (Nat × FuncId × Call) :=
  match o.guard, o.dst, o.op with
  | none, some d, .call c => match c.callee with
    | .value (.func f) => match two? E f with
      | true => some (d, f, c)
      | false => none
    | _ => none
  | _, _, _ => none
def lookV : List (Nat × AV) → Nat → AV
  | [], _ => .bad
  | (k, v) :: r, t => match Nat.beq k t with
    | true => v
    | false => lookV r t
def lookR : List (Nat × Row) → Nat → Option Row
  | [], _ => none
  | (k, v) :: r, t => match Nat.beq k t with
    | true => some v
    | false => lookR r t
def mkSt (tv : List (Nat × AV)) (rv : List (Nat × Row)) : St := ⟨lookV tv, lookR rv⟩
/-- A value that names a row, or none. -/
def tId : AV → List Nat
  | .loc id _ => [id]
  | .own id _ => [id]
  | .qs id _ _ => [id]
  | .elt id _ _ _ => [id]
  | _ => []
mutual
def idFree : AV → Bool
  | .own _ _ => false
  | .qs _ _ _ => false
  | .loc _ _ => false
  | .elt _ _ _ _ => false
  | .clo _ a b => idFreeL a && idFreeL b
  | .agg cs => idFreeL cs
  | .tup vs => idFreeL vs
  | _ => true
def idFreeL : List AV → Bool
  | [] => true
  | v :: r => idFree v && idFreeL r
end
def tOK : AV → Bool
  | .loc _ _ => true
  | .own _ _ => true
  | .qs _ _ _ => true
  | .elt _ _ _ _ => true
  | v => idFree v
/-- No cell of a row that may name rows names this one. -/
def bxN (id : Nat) : List (Nat × Row) → Prop
  | [] => True
  | (_, ⟨_, sz, n, f, _, true⟩) :: r => (∀ i j, i < n → j < sz → tOK (f i j) = true ∧ (tId (f i j)).any (Nat.beq id) = false) ∧ bxN id r
  | _ :: r => bxN id r
/-- append to a slice that ends where its row ends: the row under the same name, of whatever length. -/
structure QAppP (E : Env) (S : List Nat) (rv : List (Nat × Row)) (t t' : TypeId) (id n : Nat) (f : Nat → Nat → AV) (x : AV) (K : AV → (Nat → Option Row) → Prop) : Prop where
  go : ∃ (e : TypeId) (s b : Nat) (zs : List AV) (ds : TDesc) (tb : Nat) (z : List AV) (k : Nat) (g : Nat → Nat → AV) (en : Nat) (fr : Nat → Nat → AV) (rv' : Nat → List (Nat × Row)),
    t' = t ∧ E.tab t = some ⟨.slice e, s, b, zs⟩ ∧ E.tab e = some ⟨ds, 1, tb, z⟩ ∧ newsOf 1 x (rowOf (lookR rv) x) = some (k, g) ∧ 0 < k ∧ lookR rv id = some ⟨e, 1, en, fr, 1, false⟩ ∧
    (∀ q, q ∈ S → q ≠ id) ∧ bxN id rv ∧ ((n + k) * tb ≤ 140737488355328 ∧ n + k ≤ 9223372036854775807) ∧
    (∀ e' q, q ≠ id → lookR (rv' e') q = lookR rv q) ∧ (∀ e', lookR (rv' e') id = some ⟨e, 1, e', fun _ _ => .bad, 1, false⟩) ∧ ∀ e', K (.qs id (n + k) (appF n f g)) (lookR (rv' e'))
/-- append, where the old name is given up and the row may be stored into again. -/
def eatT (E : Env) (tys : List TypeId) (d : Nat) : InlT := fun S rv args K => match tys, args with
  | [t, t'], [.own id n, x] => match Nat.beq t t', E.tab t with
    | true, some ⟨.slice e, _, _, _⟩ => match E.tab e with
      | some ⟨_, ts, tb, _⟩ => match Nat.blt 0 ts, newsOf ts x (rowOf (lookR rv) x), lookR rv id with
        | true, some (k, g), some ⟨re, sz, _, f, 0, false⟩ => match Nat.beq re e, Nat.beq sz ts, S.any (Nat.beq id), lookR rv d, Nat.beq d id with
          | true, true, false, none, false => Chk ((n + k) * tb ≤ 140737488355328 ∧ n + k ≤ 9223372036854775807) (bxN id rv ∧ K (.own d (n + k)) (fun q => match Nat.beq q d with
            | true => some ⟨e, ts, n + k, appF n f g, 0, false⟩
            | false => match Nat.beq q id with
              | true => none
              | false => lookR rv q))
          | _, _, _, _, _ => False
        | _, _, _ => False
      | none => False
    | _, _ => False
  | [t, t'], [.qs id n f, x] => QAppP E S rv t t' id n f x K
  | _, _ => False
/-- A call that is evaluated in the caller's rows; an append of this kind. -/
def inlOp (E : Env) (o : Oper) : Option (Nat × Call × InlT) :=
  match o.guard, o.dst, o.op with
  | none, some d, .call c => match c.callee with
    | .value (.func f) => match E.inl f with
      | some g => some (d, c, g)
      | none => none
    | .builtin .append => match E.eat.any (Nat.beq d) with
      | true => some (d, c, eatT E c.argTypes.toList d)
      | false => none
    | _ => none
  | _, _, _ => none
def tIds : List (Nat × AV) → List Nat
  | [] => []
  | (_, v) :: r => tId v ++ tIds r
/-- The slots that are still wanted behind the call. -/
def dropV (dr : List Nat) : List (Nat × AV) → List (Nat × AV)
  | [] => []
  | (k, v) :: r => match dr.any (Nat.beq k) with
    | true => dropV dr r
    | false => (k, v) :: dropV dr r
structure InlP (E : Env) (σ : St) (X : List Nat → List (Nat × AV) → List (Nat × AV) → List (Nat × Row) → Prop) : Prop where
  go : ∃ tv dr rv, Wk E σ (mkSt tv rv) ∧ (tv.all fun p => tOK p.2) = true ∧ X (tIds (dropV dr tv) ++ E.keep) tv (dropV dr tv) rv
def inlA (l : List AV) (X : List AV → Prop) : Prop := match noTups l with
  | true => X l
  | false => False
def putV (tv : List (Nat × AV)) (d : Nat) (v : AV) (t : Nat) : AV := match Nat.beq t d with | true => v | false => lookV tv t
structure TwoR where
  args : List AV
  p : Prop
  r1 : Row
  r2 : Row
  rest : List AV
def call2 (E : Env) (f : FuncId) (args : List AV) (m : Nat → Option Row) : Option TwoR :=
  match noTups args, E.spec f (pureL m args) with
  | true, .new2 p r1 r2 rest => some ⟨args, p, r1, r2, rest⟩
  | _, _ => none
/-- A region in the text's order; whether a slice without elements is nil is left open. -/
def evOpsS (E : Env) (ops : List Oper) : List Oper → St → KB → (St → KB → Prop) → Prop
  | [], σ, kb, K => K σ kb
  | o :: r, σ, kb, K => match nilOp o with
    | none => match inlOp E o with
     | some (d, c, g) => InlP E σ fun S tv tk rv => inlA (c.args.toList.map (evO (lookV tv))) fun l => g S rv l fun v m' => evOpsS E ops r ⟨putV tk d v, m'⟩ kb0 K
     | none => match callOp E o with
      | none => evOps E ops [o] σ kb (fun σ' kb' => evOpsS E ops r σ' kb' K)
      | some (d, f, c) => match call2 E f (c.args.toList.map (evO σ.t)) σ.m, σ.m d, σ.m (d + 500) with
        | some ⟨args, p, r1, r2, rest⟩, none, none => Chk p (evOpsS E ops r ⟨fun t => match Nat.beq t d with | true => .agg (.own d r1.n :: .own (d + 500) r2.n :: rest) | false => σ.t t, effM (effM σ.m d (some r1) (fzArgs args)) (d + 500) (some r2) fz0⟩ (kbPut kb (some d) none) K)
        | _, _, _ => False
    | some _ => match nilCmp E o σ.t with
      | some (d, n) => ∀ b : Bool, (0 < n → b = false) → evOpsS E ops r (σ.put d (.bit b)) (kbPut kb (some d) none) K
      | none => evOps E ops [o] σ kb (fun σ' kb' => evOpsS E ops r σ' kb' K)

def ev (E : Env) : Code → St → KB → (Ex → St → KB → Prop) → Prop
  | .skip, σ, kb, Q => Q .normal σ kb
  | .label _, σ, kb, Q => Q .normal σ kb
  | .region _ ops draw, σ, kb, Q => match draw, hasStore ops.toList with
    | false, _ => evOpsS E ops.toList ops.toList σ kb (Q .normal)
    | true, false => evOps E ops.toList ops.toList σ kb (Q .normal)
    | true, true => evOps E ops.toList ops.toList σ kb (fun σ' kb' => Chk (regOK ops σ'.t = true) (Q .normal σ' kb'))
  | .seq a b, σ, kb, Q => ev E a σ kb (fun e σ' kb' => match e with
    | .normal => ev E b σ' kb' Q
    | e => Q e σ' kb')
  | .cond c x y, σ, kb, Q => match kbOf kb c with
    | some true => ev E x σ kb Q
    | some false => ev E y σ kb Q
    | none => match evO σ.t c with
      | .bit b => Brn b (ev E x σ (kbMark kb c true) Q) (ev E y σ (kbMark kb c false) Q)
      | _ => False
  | .block id x, σ, kb, Q => ev E x σ kb (fun e σ' kb' => match e with
    | .exit j => (match Nat.beq j id with | true => Q .normal σ' kb' | false => Q (.exit j) σ' kb')
    | e => Q e σ' kb')
  | .loop x, σ, _, Q => LoopOK E (ev E x) σ Q
  | .exit id, σ, kb, Q => Q (.exit id) σ kb
  | .ret, σ, kb, Q => Q .ret σ kb
  | _, _, _, _ => False

/-- What is asked of the code by itself. -/
def codeOK (N : Nat) : Code → Bool
  | .region _ ops draw => (ops.toList.all fun o => match o.dst with | some d => Nat.blt d N | none => true) && (!draw || (lexE ops && lateOK ops.toList))
  | .seq a b => codeOK N a && codeOK N b
  | .cond _ a b => codeOK N a && codeOK N b
  | .block _ a => codeOK N a
  | .loop a => codeOK N a
  | _ => true

variable {P : Program} {E : Env} {N B : Nat} {w0 : World} {I0 : Nat → Nat → Prop}

theorem kbOf_sound {σ : St} {kb : KB} (hk : KBok σ kb) {x : Operand} {b : Bool} (h : kbOf kb x = some b) : evO σ.t x = .bit b := by
  cases x with
  | tmp t => exact hk t b h
  | const v =>
    cases v with
    | bool c =>
      have := Option.some.inj h
      subst this
      cases c <;> rfl
    | _ => cases h
  | _ => cases h

theorem kbMark_sound {σ : St} {kb : KB} (hk : KBok σ kb) {x : Operand} {b : Bool} (h : evO σ.t x = .bit b) : KBok σ (kbMark kb x b) := by
  cases x with
  | tmp t =>
    intro d c hd
    simp only [kbMark] at hd
    cases hb : Nat.beq d t with
    | true =>
      rw [hb] at hd
      simp only [Option.some.injEq] at hd
      have := Nat.eq_of_beq_eq_true hb
      subst this; subst hd
      exact h
    | false => rw [hb] at hd; exact hk d c hd
  | _ => exact hk

theorem kbPut_sound {σ σ' : St} {kb : KB} (hk : KBok σ kb) {dst : Option Nat} {v : AV} (ht : ∀ i, σ'.t i = (match dst with | some d => (match Nat.beq i d with | true => v | false => σ.t i) | none => σ.t i)) {x : Option Bool} (hx : ∀ b, x = some b → v = .bit b) :
    KBok σ' (kbPut kb dst x) := by
  intro d b h
  rw [ht]
  cases dst with
  | none => exact hk d b h
  | some d' =>
    simp only [kbPut] at h
    cases hb : Nat.beq d d' with
    | true => rw [hb] at h; simp only [hb]; exact hx b h
    | false => rw [hb] at h; simp only [hb]; exact hk d b h

theorem putO_eff (σ : St) (d : Option Nat) (v : AV) : σ.putO d v = appE d σ v none fz0 := by
  cases d with
  | none =>
    simp only [St.putO, appE]
    have : effM σ.m 0 none fz0 = σ.m := effM_fz0 σ.m 0
    rw [this]
  | some d =>
    simp only [St.putO, St.put, appE, St.eff, effM_fz0]

theorem putO_t (σ : St) (dst : Option Nat) (v : AV) (i : Nat) : (σ.putO dst v).t i = (match dst with | some d => (match Nat.beq i d with | true => v | false => σ.t i) | none => σ.t i) := by
  cases dst <;> rfl

theorem chkO_sound {p : Option Prop} {x : Prop} (h : chkO p x) : (∀ q, p = some q → q) ∧ x := by
  cases p with
  | none => exact ⟨(fun q h => by cases h), h⟩
  | some q => exact ⟨fun q' e => by injection e with e; subst e; exact h.l, h.r⟩

/-- An operation that is no store, in the evaluator. -/
theorem evR_step {ops : List Oper} {o : Oper} {σ : St} {kb : KB} {nk : Option Bool} {K : St → KB → Prop} (h : evR o.dst σ kb nk K (aop E o.op (o.dst.getD 0) (evO σ.t) σ.m)) (hk : KBok σ kb)
    (hnk : ∀ v b, aop E o.op (o.dst.getD 0) (evO σ.t) σ.m = .val v → nk = some b → v = .bit b) (hnk' : ∀ p v b, aop E o.op (o.dst.getD 0) (evO σ.t) σ.m = .valc p v → nk = some b → v = .bit b)
    (hkb : ∀ p v k n f b, aop E o.op (o.dst.getD 0) (evO σ.t) σ.m = .eff p v k n f → k = some b → v = .bit b)
    (hw : wantedA ops o σ.t = some true) (hs : isStore o.op = false) : ∃ σ' kb', GStep E ops o σ σ' ∧ KBok σ' kb' ∧ K σ' kb' := by
  unfold evR at h
  generalize hr : aop E o.op (o.dst.getD 0) (evO σ.t) σ.m = r at h hnk hnk' hkb
  cases r with
  | no => exact h.elim
  | val v =>
    refine ⟨_, _, .inl ⟨v, none, fz0, .inl ⟨hw, hs, by rw [hr]; exact ⟨rfl, rfl, rfl⟩⟩, (fun h => by cases h), putO_eff σ o.dst v⟩, kbPut_sound hk (putO_t σ o.dst v) (fun b e => hnk v b rfl e), h⟩
  | valc p v =>
    refine ⟨_, _, .inl ⟨v, none, fz0, .inl ⟨hw, hs, by rw [hr]; exact ⟨h.l, rfl, rfl, rfl⟩⟩, (fun h => by cases h), putO_eff σ o.dst v⟩, kbPut_sound hk (putO_t σ o.dst v) (fun b e => hnk' p v b rfl e), h.r⟩
  | eff p v k new fz =>
    have hb := fun b => hkb p v k new fz b rfl
    cases hd : o.dst with
    | none =>
      simp only [hd] at h
      cases new with
      | some r => exact h.elim
      | none =>
        obtain ⟨hp, h⟩ := chkO_sound h
        exact ⟨⟨σ.t, effM σ.m 0 none fz⟩, kb, .inl ⟨v, none, fz, .inl ⟨hw, hs, by rw [hr]; exact ⟨hp, rfl, rfl, rfl⟩⟩, (fun h => by cases h), by rw [hd]; rfl⟩, fun d b e => hk d b e, h⟩
    | some d =>
      simp only [hd] at h
      cases new with
      | none =>
        obtain ⟨hp, h⟩ := chkO_sound h
        refine ⟨_, _, .inl ⟨v, none, fz, .inl ⟨hw, hs, by rw [hr]; exact ⟨hp, rfl, rfl, rfl⟩⟩, (fun h => by cases h), by rw [hd]; rfl⟩, kbPut_sound hk (v := v) (fun i => rfl) hb, h⟩
      | some r =>
        cases hm : σ.m d with
        | some q => simp only [hm] at h
        | none =>
          simp only [hm] at h
          obtain ⟨hp, h⟩ := chkO_sound h
          refine ⟨_, _, .inl ⟨v, some r, fz, .inl ⟨hw, hs, by rw [hr]; exact ⟨hp, rfl, rfl, rfl⟩⟩, fun _ => ⟨d, hd, hm⟩, by rw [hd]; rfl⟩, kbPut_sound hk (v := v) (fun i => rfl) hb, h⟩

theorem acall_kb {E : Env} {c : Call} {d : Nat} {ev : Operand → AV} {m : Nat → Option Row} {p v k n f b} (h : acall E c d ev m = .eff p v k n f) (hk : k = some b) : v = .bit b := by
  subst hk
  unfold acall at h
  split at h
  · split at h
    · split at h
      · cases h
      · cases h
      · cases h
      · injection h with _ h1 h2
        injection h2 with h2
        rw [← h1, h2]
      · cases h
      · split at h <;> cases h
      · cases h
      · cases h
    · cases h
  · repeat' (split at h)
    all_goals cases h
  · repeat' (split at h)
    all_goals cases h
  · repeat' (split at h)
    all_goals cases h
  · split at h
    · unfold aapp at h
      repeat' (split at h)
      all_goals cases h
    · cases h
  · cases h

theorem aop_kb {E : Env} {op : Op} {d : Nat} {ev : Operand → AV} {m : Nat → Option Row} {p v k n f b} (h : aop E op d ev m = .eff p v k n f) (hk : k = some b) : v = .bit b := by
  cases op with
  | call c => exact acall_kb h hk
  | binOp x y z t u =>
    simp only [aop, abin] at h
    repeat' (split at h)
    all_goals cases h
  | load t x =>
    simp only [aop, aload] at h
    repeat' (split at h)
    all_goals cases h
  | indexAddr t x y =>
    simp only [aop, aindex] at h
    repeat' (split at h)
    all_goals cases h
  | unOp u t x =>
    cases u <;> simp only [aop] at h <;> first
      | cases h
      | (split at h <;> cases h)
  | makeFunc fn x y =>
    cases fn <;> simp only [aop] at h <;> first
      | cases h
      | (split at h <;> cases h)
  | typeAssert x t y ok =>
    cases ok <;> simp only [aop] at h <;> first
      | cases h
      | (split at h <;> cases h)
  | slice t x lo hi mx =>
    cases mx with
    | some _ => simp only [aop] at h; cases h
    | none =>
      simp only [aop, aslice, sliceOf] at h
      repeat' (split at h)
      all_goals (cases h; try cases hk)
  | alloc e =>
    simp only [aop] at h
    repeat' (split at h)
    all_goals (cases h; try cases hk)
  | box e x =>
    simp only [aop] at h
    repeat' (split at h)
    all_goals (cases h; try cases hk)
  | buildSlice t n ps =>
    simp only [aop] at h
    repeat' (split at h)
    all_goals (cases h; try cases hk)
  | makeSlice t x y =>
    simp only [aop] at h
    repeat' (split at h)
    all_goals (cases h; try cases hk)
  | _ =>
    simp only [aop] at h
    repeat' (split at h)
    all_goals cases h

theorem evOp_step {ops : List Oper} {o : Oper} {σ : St} {kb : KB} {K : St → KB → Prop} (h : evOp E o σ kb K) (hk : KBok σ kb) (hw : wantedA ops o σ.t = some true) :
    ∃ σ' kb', GStep E ops o σ σ' ∧ KBok σ' kb' ∧ K σ' kb' := by
  have val : ∀ {x : AV} {nk : Option Bool} {kb' : KB}, aop E o.op (o.dst.getD 0) (evO σ.t) σ.m = .val x → isStore o.op = false → KBok σ kb' → (∀ b, nk = some b → x = .bit b) → K (σ.putO o.dst x) (kbPut kb' o.dst nk) →
      ∃ σ' kb', GStep E ops o σ σ' ∧ KBok σ' kb' ∧ K σ' kb' := by
    intro x nk kb' hr hs hk' hb hK
    exact ⟨_, _, .inl ⟨x, none, fz0, .inl ⟨hw, hs, by rw [hr]; exact ⟨rfl, rfl, rfl⟩⟩, (fun h => by cases h), putO_eff σ o.dst x⟩, kbPut_sound hk' (putO_t σ o.dst x) hb, hK⟩
  have other : isStore o.op = false → evR o.dst σ kb none K (aop E o.op (o.dst.getD 0) (evO σ.t) σ.m) → ∃ σ' kb', GStep E ops o σ σ' ∧ KBok σ' kb' ∧ K σ' kb' := fun hs h =>
    evR_step h hk (fun _ _ _ e => by cases e) (fun _ _ _ _ e => by cases e) (fun p v k n f b e hb => aop_kb e hb) hw hs
  unfold evOp at h
  split at h
  · rename_i c a b hop
    have hs : isStore o.op = false := by rw [hop]; rfl
    split at h
    · rename_i hc
      have := kbOf_sound hk hc
      exact val (x := evO σ.t a) (by rw [hop]; simp only [aop, this]) hs hk (fun b' e => kbOf_sound hk e) h
    · rename_i hc
      have := kbOf_sound hk hc
      exact val (x := evO σ.t b) (by rw [hop]; simp only [aop, this]) hs hk (fun b' e => kbOf_sound hk e) h
    · split at h
      · rename_i v hv
        cases hvb : v with
        | true => exact val (x := evO σ.t a) (by rw [hop]; simp only [aop, hv, hvb]) hs (kbMark_sound hk (by rw [hv, hvb])) (fun b' e => kbOf_sound hk e) (h.t hvb)
        | false => exact val (x := evO σ.t b) (by rw [hop]; simp only [aop, hv, hvb]) hs (kbMark_sound hk (by rw [hv, hvb])) (fun b' e => kbOf_sound hk e) (h.f hvb)
      · exact h.elim
  · rename_i x hop
    exact val (x := evO σ.t x) (by rw [hop]; rfl) (by rw [hop]; rfl) hk (fun b e => kbOf_sound hk e) h
  · rename_i x hop
    exact val (x := evO σ.t x) (by rw [hop]; rfl) (by rw [hop]; rfl) hk (fun b e => kbOf_sound hk e) h
  · rename_i t x hop
    rw [← hop] at h
    refine evR_step h hk (fun v b hv hb => ?_) (fun p v b hv _ => ?_) (fun p v k n f b hv _ => ?_) hw (by rw [hop]; rfl)
    · rw [hop] at hv
      cases hx : kbOf kb x with
      | none => rw [hx] at hb; cases hb
      | some c =>
        rw [hx] at hb
        simp only [Option.map_some, Option.some.injEq] at hb
        have := kbOf_sound hk hx
        simp only [aop, this] at hv
        injection hv with hv
        rw [← hv, hb]
    · rw [hop] at hv
      simp only [aop] at hv
      split at hv <;> cases hv
    · rw [hop] at hv
      simp only [aop] at hv
      split at hv <;> cases hv
  · rename_i t x y hop
    split at h
    · rename_i id r hd hsop
      refine ⟨_, _, .inr ⟨hw, hd, t, x, y, id, r, hop, hsop, rfl⟩, fun d b e => hk d b e, ?_⟩
      exact h
    · exact h.elim
  · rename_i op h1 h2 h3 h4 h5
    refine other ?_ h
    cases hop : o.op <;> first
      | rfl
      | exact absurd hop (h5 _ _ _)

theorem evOps_steps {ops : List Oper} : ∀ (l : List Oper) (σ : St) (kb : KB) (K : St → KB → Prop), evOps E ops l σ kb K → KBok σ kb → ∃ σ' kb', GSteps E ops l σ σ' ∧ KBok σ' kb' ∧ K σ' kb'
  | [], σ, kb, K, h, hk => ⟨σ, kb, rfl, hk, h⟩
  | o :: r, σ, kb, K, h, hk => by
    have run : ∀ {kb' : KB}, evOp E o σ kb' (fun σ' kb' => evOps E ops r σ' kb' K) → KBok σ kb' → wantedA ops o σ.t = some true → ∃ σ' kb', GSteps E ops (o :: r) σ σ' ∧ KBok σ' kb' ∧ K σ' kb' := by
      intro kb' he hk' hw
      obtain ⟨σ1, kb1, h1, h2, h3⟩ := evOp_step he hk' hw
      obtain ⟨σ2, kb2, h4, h5, h6⟩ := evOps_steps r σ1 kb1 K h3 h2
      exact ⟨σ2, kb2, ⟨σ1, h1, h4⟩, h5, h6⟩
    have skip : ∀ {kb' : KB}, evOps E ops r (σ.putO o.dst (.tup [])) (kbPut kb' o.dst none) K → KBok σ kb' → wantedA ops o σ.t = some false → ∃ σ' kb', GSteps E ops (o :: r) σ σ' ∧ KBok σ' kb' ∧ K σ' kb' := by
      intro kb' he hk' hw
      obtain ⟨σ2, kb2, h4, h5, h6⟩ := evOps_steps r _ _ K he (kbPut_sound hk' (putO_t σ o.dst (.tup [])) (fun b e => by cases e))
      exact ⟨σ2, kb2, ⟨_, .inl ⟨.tup [], none, fz0, .inr ⟨hw, rfl, rfl, rfl⟩, (fun h => by cases h), putO_eff σ o.dst (.tup [])⟩, h4⟩, h5, h6⟩
    unfold evOps at h
    have hwd : ∀ {j : Nat} {want : Bool} {d : Nat} {b : Bool}, o.guard = some (j, want) → gdst ops j = some d → σ.t d = .bit b → wantedA ops o σ.t = some (b == want) := by
      intro j want d b hg hd ht
      simp [wantedA, hg, hd, ht]
    split at h
    · rename_i hg
      exact run h hk (by simp [wantedA, hg])
    · rename_i j want hg
      split at h
      · exact h.elim
      · rename_i d hd
        split at h
        · rename_i b hb
          have ht := hk d b hb
          have hw := hwd hg hd ht
          split at h
          · exact run h hk hw
          · exact run h hk hw
          · rename_i n1 n2
            refine skip h hk ?_
            rw [hw]
            cases b <;> cases want <;> first
              | rfl
              | exact (n1 rfl rfl).elim
              | exact (n2 rfl rfl).elim
        · split at h
          · rename_i b ht
            have hw := hwd hg hd ht
            have mk : ∀ c, b = c → KBok σ (kbPut kb (some d) (some c)) := fun c e => by
              have := kbMark_sound (x := .tmp d) hk (b := c) (by simp only [evO]; rw [ht, e])
              exact this
            split at h
            · cases hb : b with
              | true => exact run (h.t hb) (mk true hb) (by rw [hw, hb]; rfl)
              | false => exact skip (h.f hb) (mk false hb) (by rw [hw, hb]; rfl)
            · cases hb : b with
              | true => exact skip (h.t hb) (mk true hb) (by rw [hw, hb]; rfl)
              | false => exact run (h.f hb) (mk false hb) (by rw [hw, hb]; rfl)
          · rename_i ht
            exact skip h hk (by simp [wantedA, hg, hd, ht])
          · exact h.elim
end Go.Proofs.Ytbhbjmneglkgnaa.AI
