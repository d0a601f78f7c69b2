/- The evaluator with its values worked out at once, so that terms stay small; it is the same evaluator. Conditions: none. -/
import Derived.Test.YtiofgjebbpnkiaaAiLe
namespace Go.Proofs.Ytiofgjebbpnkiaa.AI
open Go

def force1 (v : AV) (K : AV → Prop) : Prop := match v with
  | .bad => K .bad
  | .int k n => K (.int k n)
  | .bit b => K (.bit b)
  | .str s => K (.str s)
  | .nilI => K .nilI
  | .err n => K (.err n)
  | .nilP => K .nilP
  | .nilS => K .nilS
  | .nilF => K .nilF
  | .clo f a b => K (.clo f a b)
  | .sl a b c => K (.sl a b c)
  | .iref a b => K (.iref a b)
  | .loc a b => K (.loc a b)
  | .elt a b c d => K (.elt a b c d)
  | .own a b => K (.own a b)
  | .agg cs => K (.agg cs)
  | .tup vs => K (.tup vs)
theorem force1_eq (v : AV) (K : AV → Prop) : force1 v K = K v := by cases v <;> rfl
def forceL1 : List AV → (List AV → Prop) → Prop
  | [], K => K []
  | v :: r, K => force1 v fun v => forceL1 r fun r => K (v :: r)
theorem forceL1_eq : ∀ (l : List AV) (K : List AV → Prop), forceL1 l K = K l
  | [], _ => rfl
  | v :: r, K => by simp only [forceL1, force1_eq, forceL1_eq r]
def force2 (v : AV) (K : AV → Prop) : Prop := force1 v fun v => match v with
  | .agg cs => forceL1 cs fun cs => K (.agg cs)
  | v => K v
theorem force2_eq (v : AV) (K : AV → Prop) : force2 v K = K v := by
  simp only [force2, force1_eq]
  cases v <;> simp only [forceL1_eq]
def forceL2 : List AV → (List AV → Prop) → Prop
  | [], K => K []
  | v :: r, K => force2 v fun v => forceL2 r fun r => K (v :: r)
theorem forceL2_eq : ∀ (l : List AV) (K : List AV → Prop), forceL2 l K = K l
  | [], _ => rfl
  | v :: r, K => by simp only [forceL2, force2_eq, forceL2_eq r]
def force (v : AV) (K : AV → Prop) : Prop := force2 v fun v => match v with
  | .tup vs => forceL2 vs fun vs => K (.tup vs)
  | v => K v
theorem force_eq (v : AV) (K : AV → Prop) : force v K = K v := by
  simp only [force, force2_eq]
  cases v <;> simp only [forceL2_eq]
def forceP : List (Nat × AV) → (List (Nat × AV) → Prop) → Prop
  | [], K => K []
  | (i, v) :: r, K => force2 v fun v => forceP r fun r => K ((i, v) :: r)
theorem forceP_eq : ∀ (l : List (Nat × AV)) (K : List (Nat × AV) → Prop), forceP l K = K l
  | [], _ => rfl
  | (i, v) :: r, K => by simp only [forceP, force2_eq, forceP_eq r]

def forceR (r : R0) (K : R0 → Prop) : Prop := match r with
  | .no => False
  | .val v => force v fun v => K (.val v)
  | .valc p v => force v fun v => K (.valc p v)
  | .eff p v kb new fz => force v fun v => K (.eff p v kb new fz)
theorem forceR_eq {dst : Option Nat} {σ : St} {kb : KB} {nk : Option Bool} {K : St → KB → Prop} (r : R0) : forceR r (evR dst σ kb nk K) = evR dst σ kb nk K r := by
  cases r <;> simp only [forceR, force_eq] <;> rfl

/-- A struct or an array out of its parts' values. -/
def abuild (E : Env) (t : TypeId) (ps : List (Nat × AV)) : R0 := match E.tab t with
  | some ⟨.struct fs, size, _, z⟩ =>
    match partsOK (fun i => (lookF fs i).1) (fun i => (lookF fs i).2.1) fs.length size ps with
    | true => .val (.agg (takeF (fillF (fun i => (lookF fs i).1) ps (nth z)) 0 size))
    | false => .no
  | some ⟨.array n e, size, _, z⟩ => match E.tab e with
    | some ⟨_, ts, _, _⟩ =>
      match partsOK (fun i => i * ts) (fun _ => ts) n size ps with
      | true => .val (.agg (takeF (fillF (fun i => i * ts) ps (nth z)) 0 size))
      | false => .no
    | none => .no
  | _ => .no
theorem abuild_eq {E : Env} {t : TypeId} {ps : Array (Nat × Operand)} {d : Nat} {ev : Operand → AV} {m : Nat → Option Row} :
    aop E (.build t ps) d ev m = abuild E t (ps.toList.map fun p => (p.1, ev p.2)) := rfl

def pureP (m : Nat → Option Row) : List (Nat × AV) → List (Nat × AV)
  | [] => []
  | (i, v) :: r => (i, pure1 m v) :: pureP m r
theorem pureP_eq (m : Nat → Option Row) (l : List (Nat × AV)) : pureP m l = l.map fun p => (p.1, pure1 m p.2) := by
  induction l with
  | nil => rfl
  | cons p r ih => obtain ⟨i, v⟩ := p; simp only [pureP, List.map_cons, ih]
def sndL : List (Nat × AV) → List AV
  | [] => []
  | (_, v) :: r => v :: sndL r
theorem sndL_eq (l : List (Nat × AV)) : sndL l = l.map (·.2) := by
  induction l with
  | nil => rfl
  | cons p r ih => obtain ⟨i, v⟩ := p; simp only [sndL, List.map_cons, ih]

/-- A slice out of its parts' values; 'qs': these as values of the world. -/
def abuildSl (E : Env) (t : TypeId) (n : Nat) (d : Nat) (ps qs : List (Nat × AV)) : R0 := match E.tab t with
  | some ⟨.slice e, _, _, _⟩ => match E.tab e with
    | some ⟨_, ts, _, z⟩ =>
      match partsOK (fun i => i * ts) (fun _ => ts) n (n * ts) qs, Nat.ble (n * ts) 16777216, Nat.blt 0 ts with
      | true, true, true => .eff none (.own d n) none (some ⟨e, ts, n, fun i j => pureC (fillF (fun i => i * ts) qs (fun q => nth z (q % ts)) (i * ts + j)), 0, false⟩) (fzArgs (sndL ps))
      | _, _, _ => .no
    | none => .no
  | _ => .no
theorem abuildSl_eq {E : Env} {t : TypeId} {n : Nat} {ps : Array (Nat × Operand)} {d : Nat} {ev : Operand → AV} {m : Nat → Option Row} :
    aop E (.buildSlice t n ps) d ev m = abuildSl E t n d (ps.toList.map fun p => (p.1, ev p.2)) (pureP m (ps.toList.map fun p => (p.1, ev p.2))) := by
  have e1 : pureP m (ps.toList.map fun p => (p.1, ev p.2)) = ps.toList.map fun p => (p.1, pure1 m (ev p.2)) := by
    rw [pureP_eq, List.map_map]; rfl
  have e2 : sndL (ps.toList.map fun p => (p.1, ev p.2)) = ps.toList.map fun p => ev p.2 := by
    rw [sndL_eq, List.map_map]; rfl
  simp only [aop, abuildSl, e1, e2]
  rfl

/-- A call, out of its arguments' values. -/
def acallV (E : Env) (c : Call) (d : Nat) (fv : AV) (vs : List AV) (m : Nat → Option Row) : R0 :=
  match c.callee with
  | .value _ => match fv with
    | .clo f first caps =>
      match noTups vs, E.spec f (pureL m (first ++ vs ++ caps)) with
      | false, _ => .no
      | true, .no => .no
      | true, .ok r => .eff none r none none (fzArgs (first ++ vs ++ caps))
      | true, .okb b => .eff none (.bit b) (some b) none (fzArgs (first ++ vs ++ caps))
      | true, .pre p r => .eff (some p) r none none (fzArgs (first ++ vs ++ caps))
    | _ => .no
  | .builtin .len => match vs, c.argTypes.toList with
    | [x], [t] => match E.tab t, x with
      | some ⟨.slice _, _, _, _⟩, .sl _ n _ => .val (.int .i64 n)
      | some ⟨.slice _, _, _, _⟩, .own _ n => .val (.int .i64 n)
      | some ⟨.slice _, _, _, _⟩, .nilS => .val (.int .i64 0)
      | some ⟨.array n _, _, _, _⟩, _ => .val (.int .i64 n)
      | _, _ => .no
    | _, _ => .no
  | .builtin .max => match vs with
    | [.int .i64 a, .int .i64 b] => .val (.int .i64 (max a b))
    | [.int .i64 a, .int .i64 b, .int .i64 d] => .val (.int .i64 (max (max a b) d))
    | _ => .no
  | .builtin .min => match vs with
    | [.int .i64 a, .int .i64 b] => .val (.int .i64 (min a b))
    | [.int .i64 a, .int .i64 b, .int .i64 d] => .val (.int .i64 (min (min a b) d))
    | _ => .no
  | .builtin .append => match vs, c.argTypes.toList with
    | [s, x], [t, t'] => aapp E t t' s x d (rowOf m s) (rowOf m x) (apOK (rowOf m s))
    | _, _ => .no
  | _ => .no
def calleeV (c : Call) (ev : Operand → AV) : AV := match c.callee with
  | .value fo => ev fo
  | _ => .bad
theorem acallV_eq {E : Env} {c : Call} {d : Nat} {ev : Operand → AV} {m : Nat → Option Row} : acall E c d ev m = acallV E c d (calleeV c ev) (c.args.toList.map ev) m := by
  unfold acall acallV calleeV
  cases hc : c.callee with
  | builtin b => cases b <;> rfl
  | _ => rfl

def evOpF (E : Env) (o : Oper) (σ : St) (kb : KB) (K : St → KB → Prop) : Prop :=
  match o.op with
  | .pick c a b => match kbOf kb c with
    | some true => force (evO σ.t a) fun v => K (σ.putO o.dst v) (kbPut kb o.dst (kbOf kb a))
    | some false => force (evO σ.t b) fun v => K (σ.putO o.dst v) (kbPut kb o.dst (kbOf kb b))
    | none => match evO σ.t c with
      | .bit v => Brn v (force (evO σ.t a) fun v => K (σ.putO o.dst v) (kbPut (kbMark kb c true) o.dst (kbOf kb a))) (force (evO σ.t b) fun v => K (σ.putO o.dst v) (kbPut (kbMark kb c false) o.dst (kbOf kb b)))
      | _ => False
  | .move x => force (evO σ.t x) fun v => K (σ.putO o.dst v) (kbPut kb o.dst (kbOf kb x))
  | .assign x => force (evO σ.t x) fun v => K (σ.putO o.dst v) (kbPut kb o.dst (kbOf kb x))
  | .unOp .not t x => forceR (aop E (.unOp .not t x) (o.dst.getD 0) (evO σ.t) σ.m) (evR o.dst σ kb ((kbOf kb x).map not) K)
  | .store t x y => force (evO σ.t x) fun x => force (evO σ.t y) fun y => match o.dst, sop E t x y σ.m with
    | none, some (id, r) => K ⟨σ.t, fun k => match Nat.beq k id with | true => some r | false => σ.m k⟩ kb
    | _, _ => False
  | .box e x => force (evO σ.t x) fun v => forceR (aop E (.box e x) (o.dst.getD 0) (fun _ => v) σ.m) (evR o.dst σ kb none K)
  | .build t ps => forceP (ps.toList.map fun p => (p.1, evO σ.t p.2)) fun l => forceR (abuild E t l) (evR o.dst σ kb none K)
  | .buildSlice t n ps => forceP (ps.toList.map fun p => (p.1, evO σ.t p.2)) fun l => forceP (pureP σ.m l) fun q => forceR (abuildSl E t n (o.dst.getD 0) l q) (evR o.dst σ kb none K)
  | .call c => force (calleeV c (evO σ.t)) fun fv => forceL2 (c.args.toList.map (evO σ.t)) fun vs => forceR (acallV E c (o.dst.getD 0) fv vs σ.m) (evR o.dst σ kb none K)
  | op => forceR (aop E op (o.dst.getD 0) (evO σ.t) σ.m) (evR o.dst σ kb none K)

theorem evOpF_eq (E : Env) (o : Oper) (σ : St) (kb : KB) (K : St → KB → Prop) : evOpF E o σ kb K = evOp E o σ kb K := by
  unfold evOpF evOp
  cases ho : o.op <;> simp only [force_eq, forceR_eq, forceP_eq, forceL2_eq, ← abuild_eq, ← abuildSl_eq, ← acallV_eq] <;> first
    | rfl
    | skip
  rename_i op _ _
  cases op <;> rfl

def evOpsF (E : Env) (ops : List Oper) : List Oper → St → KB → (St → KB → Prop) → Prop
  | [], σ, kb, K => K σ kb
  | o :: r, σ, kb, K => match o.guard with
    | none => evOpF E o σ kb (fun σ' kb' => evOpsF E ops r σ' kb' K)
    | some (j, want) => match gdst ops j with
      | none => False
      | some d => match kb d with
        | some b => match b, want with
          | true, true => evOpF E o σ kb (fun σ' kb' => evOpsF E ops r σ' kb' K)
          | false, false => evOpF E o σ kb (fun σ' kb' => evOpsF E ops r σ' kb' K)
          | _, _ => evOpsF E ops r (σ.putO o.dst (.tup [])) (kbPut kb o.dst none) K
        | none => match σ.t d with
          | .bit b => match want with
            | true => Brn b (evOpF E o σ (kbPut kb (some d) (some true)) (fun σ' kb' => evOpsF E ops r σ' kb' K))
                (evOpsF E ops r (σ.putO o.dst (.tup [])) (kbPut (kbPut kb (some d) (some false)) o.dst none) K)
            | false => Brn b (evOpsF E ops r (σ.putO o.dst (.tup [])) (kbPut (kbPut kb (some d) (some true)) o.dst none) K)
                (evOpF E o σ (kbPut kb (some d) (some false)) (fun σ' kb' => evOpsF E ops r σ' kb' K))
          | .tup [] => evOpsF E ops r (σ.putO o.dst (.tup [])) (kbPut kb o.dst none) K
          | _ => False
theorem evOpsF_eq (E : Env) (ops : List Oper) : ∀ (l : List Oper) (σ : St) (kb : KB) (K : St → KB → Prop), evOpsF E ops l σ kb K = evOps E ops l σ kb K
  | [], _, _, _ => rfl
  | o :: r, σ, kb, K => by
    simp only [evOpsF, evOps, evOpF_eq, evOpsF_eq E ops r]
    rfl

def evF (E : Env) : Code → St → KB → (Ex → St → KB → Prop) → Prop
  | .skip, σ, kb, Q => Q .normal σ kb
  | .label _, σ, kb, Q => Q .normal σ kb
  | .region _ ops _, σ, kb, Q => evOpsF E ops.toList ops.toList σ kb (Q .normal)
  | .seq a b, σ, kb, Q => evF E a σ kb (fun e σ' kb' => match e with
    | .normal => evF E b σ' kb' Q
    | e => Q e σ' kb')
  | .cond c x y, σ, kb, Q => match kbOf kb c with
    | some true => evF E x σ kb Q
    | some false => evF E y σ kb Q
    | none => match evO σ.t c with
      | .bit b => Brn b (evF E x σ (kbMark kb c true) Q) (evF E y σ (kbMark kb c false) Q)
      | _ => False
  | .block id x, σ, kb, Q => evF E x σ kb (fun e σ' kb' => match e with
    | .exit j => (match Nat.beq j id with | true => Q .normal σ' kb' | false => Q (.exit j) σ' kb')
    | e => Q e σ' kb')
  | .loop x, σ, _, Q => LoopOK E (evF E x) σ Q
  | .exit id, σ, kb, Q => Q (.exit id) σ kb
  | .ret, σ, kb, Q => Q .ret σ kb
  | _, _, _, _ => False
theorem evF_eq (E : Env) : ∀ (c : Code), evF E c = ev E c
  | .skip => rfl
  | .label _ => rfl
  | .region _ _ _ => by funext σ kb Q; simp only [evF, ev, evOpsF_eq]
  | .seq a b => by funext σ kb Q; simp only [evF, ev, evF_eq E a, evF_eq E b]; rfl
  | .cond c x y => by funext σ kb Q; simp only [evF, ev, evF_eq E x, evF_eq E y]; rfl
  | .block id x => by funext σ kb Q; simp only [evF, ev, evF_eq E x]; rfl
  | .loop x => by funext σ kb Q; simp only [evF, ev, evF_eq E x]
  | .exit _ => rfl
  | .ret => rfl
  | .rangeFunc .. => rfl
  | .scope _ => rfl
  | .goto _ => rfl
  | .refuse _ => rfl

def evFnF (E : Env) (fn : Func) (args : List AV) (Q : AV → Prop) : Prop :=
  match fn.body with
  | some c => forceL2 args fun args => evF E c ⟨initT args, fun _ => none⟩ kb0 (fun e σ _ => match e with
    | .exit _ => False
    | _ => match resAV E fn σ with
      | some v => force (pure1 σ.m v) Q
      | none => False)
  | none => False
theorem evFnF_eq (E : Env) (fn : Func) (args : List AV) (Q : AV → Prop) : evFnF E fn args Q = evFn E fn args Q := by
  unfold evFnF evFn
  cases fn.body with
  | none => rfl
  | some c => simp only [forceL2_eq, force_eq, evF_eq]; rfl

variable {P : Program} {T : TypeId} {tabs : List (Nat × TD)} {specs : List (Nat × Sp)}
theorem fn_ofF (h : (tabs.all fun p => tdOK P p.1 p.2) = true) (sp : SpecOK P (env T tabs specs)) (hm : P.follows .mixedOrders = true) {f : FuncId} {fn : Func} {args : List AV} {r : AV}
    (hf : P.funcs[f]? = some fn) (hb : fnB fn args.length = true) (he : evFnF (env T tabs specs) fn args (fun r' => AVle T r' r)) : FnOK P T f args r :=
  fn_of h sp hm hf hb (by rw [← evFnF_eq]; exact he)

theorem argAll1 {E : Env} {d : Nat} {t : TypeId} : ∀ {avs : List AV}, ArgAll E d [t] avs → ∃ l, Arg E d t l ∧ avs = [argAV E t l]
  | [_], ⟨⟨l, h, e⟩, _⟩ => ⟨l, h, by rw [e]⟩
theorem argAll2 {E : Env} {d : Nat} {t u : TypeId} : ∀ {avs : List AV}, ArgAll E d [t, u] avs → ∃ l m, Arg E d t l ∧ Arg E d u m ∧ avs = [argAV E t l, argAV E u m]
  | [_, _], ⟨⟨l, h, e⟩, ⟨m, h2, e2⟩, _⟩ => ⟨l, m, h, h2, by rw [e, e2]⟩
theorem argAll3 {E : Env} {d : Nat} {t u v : TypeId} : ∀ {avs : List AV}, ArgAll E d [t, u, v] avs → ∃ l m n, Arg E d t l ∧ Arg E d u m ∧ Arg E d v n ∧ avs = [argAV E t l, argAV E u m, argAV E v n]
  | [_, _, _], ⟨⟨l, h, e⟩, ⟨m, h2, e2⟩, ⟨n, h3, e3⟩, _⟩ => ⟨l, m, n, h, h2, h3, by rw [e, e2, e3]⟩
end Go.Proofs.Ytiofgjebbpnkiaa.AI
