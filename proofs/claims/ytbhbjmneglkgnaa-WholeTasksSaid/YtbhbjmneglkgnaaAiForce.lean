/- The evaluator with its values worked out at once, so that terms stay small; it is the same evaluator. Conditions: none. -/
import Derived.Test.YtbhbjmneglkgnaaAiLe
namespace Go.Proofs.Ytbhbjmneglkgnaa.AI
open Go

def force1 (v : AV) (K : AV → Prop) : Prop := match v with
  | .bad => K .bad
  | .int k n => K (.int k n)
  | .bit b => K (.bit b)
  | .str s => K (.str s)
  | .nilI => K .nilI
  | .err n => K (.err n)
  | .nilP => K .nilP
  | .nilS => K .nilS
  | .nilF => K .nilF
  | .clo f a b => K (.clo f a b)
  | .sl a b c => K (.sl a b c)
  | .iref a b => K (.iref a b)
  | .loc a b => K (.loc a b)
  | .elt a b c d => K (.elt a b c d)
  | .own a b => K (.own a b)
  | .qs a b c => K (.qs a b c)
  | .agg cs => K (.agg cs)
  | .tup vs => K (.tup vs)
theorem force1_eq (v : AV) (K : AV → Prop) : force1 v K = K v := by cases v <;> rfl
noncomputable def forceL1 (l : List AV) : (List AV → Prop) → Prop :=
  List.rec (fun K => K []) (fun v _ ih K => force1 v fun v => ih fun r => K (v :: r)) l
theorem forceL1_eq : ∀ (l : List AV) (K : List AV → Prop), forceL1 l K = K l
  | [], _ => rfl
  | v :: r, K => by
    show force1 v (fun v => forceL1 r fun r => K (v :: r)) = _
    simp only [force1_eq, forceL1_eq r]
noncomputable def force2 (v : AV) (K : AV → Prop) : Prop := force1 v fun v => match v with
  | .agg cs => forceL1 cs fun cs => K (.agg cs)
  | v => K v
theorem force2_eq (v : AV) (K : AV → Prop) : force2 v K = K v := by
  simp only [force2, force1_eq]
  cases v <;> simp only [forceL1_eq]
noncomputable def forceL2 (l : List AV) : (List AV → Prop) → Prop :=
  List.rec (fun K => K []) (fun v _ ih K => force2 v fun v => ih fun r => K (v :: r)) l
theorem forceL2_eq : ∀ (l : List AV) (K : List AV → Prop), forceL2 l K = K l
  | [], _ => rfl
  | v :: r, K => by
    show force2 v (fun v => forceL2 r fun r => K (v :: r)) = _
    simp only [force2_eq, forceL2_eq r]
noncomputable def force (v : AV) (K : AV → Prop) : Prop := force2 v fun v => match v with
  | .tup vs => forceL2 vs fun vs => K (.tup vs)
  | v => K v
theorem force_eq (v : AV) (K : AV → Prop) : force v K = K v := by
  simp only [force, force2_eq]
  cases v <;> simp only [forceL2_eq]
noncomputable def forceP (l : List (Nat × AV)) : (List (Nat × AV) → Prop) → Prop :=
  List.rec (fun K => K []) (fun p _ ih K => match p with | (i, v) => force2 v fun v => ih fun r => K ((i, v) :: r)) l
theorem forceP_eq : ∀ (l : List (Nat × AV)) (K : List (Nat × AV) → Prop), forceP l K = K l
  | [], _ => rfl
  | (i, v) :: r, K => by
    show force2 v (fun v => forceP r fun r => K ((i, v) :: r)) = _
    simp only [force2_eq, forceP_eq r]

noncomputable def forceR (r : R0) (K : R0 → Prop) : Prop := match r with
  | .no => False
  | .val v => force v fun v => K (.val v)
  | .valc p v => force v fun v => K (.valc p v)
  | .eff p v kb new fz => force v fun v => K (.eff p v kb new fz)
theorem forceR_eq {dst : Option Nat} {σ : St} {kb : KB} {nk : Option Bool} {K : St → KB → Prop} (r : R0) : forceR r (evR dst σ kb nk K) = evR dst σ kb nk K r := by
  cases r <;> simp only [forceR, force_eq] <;> rfl

/-- A struct or an array out of its parts' values. -/
def abuild (E : Env) (t : TypeId) (ps : List (Nat × AV)) : R0 := match E.tab t with
  | some ⟨.struct fs, size, _, z⟩ =>
    match partsOK (fun i => (lookF fs i).1) (fun i => (lookF fs i).2.1) fs.length size ps with
    | true => .val (.agg (takeF (fillF (fun i => (lookF fs i).1) ps (nth z)) 0 size))
    | false => .no
  | some ⟨.array n e, size, _, z⟩ => match E.tab e with
    | some ⟨_, ts, _, _⟩ =>
      match partsOK (fun i => i * ts) (fun _ => ts) n size ps with
      | true => .val (.agg (takeF (fillF (fun i => i * ts) ps (nth z)) 0 size))
      | false => .no
    | none => .no
  | _ => .no
theorem abuild_eq {E : Env} {t : TypeId} {ps : Array (Nat × Operand)} {d : Nat} {ev : Operand → AV} {m : Nat → Option Row} :
    aop E (.build t ps) d ev m = abuild E t (ps.toList.map fun p => (p.1, ev p.2)) := rfl

mutual
theorem pure1_free (m : Nat → Option Row) : ∀ v : AV, idFree v = true → pure1 m v = v
  | .own _ _, h => by cases h
  | .qs _ _ _, h => by cases h
  | .loc _ _, h => by cases h
  | .elt _ _ _ _, h => by cases h
  | .clo _ a b, h => by
    simp only [idFree, Bool.and_eq_true] at h
    simp only [pure1, pureL_free m a h.1, pureL_free m b h.2]
  | .agg cs, h => by
    simp only [idFree] at h
    simp only [pure1, pureL_free m cs h]
  | .tup vs, h => by
    simp only [idFree] at h
    simp only [pure1, pureL_free m vs h]
  | .bad, _ => rfl
  | .int _ _, _ => rfl
  | .bit _, _ => rfl
  | .str _, _ => rfl
  | .nilI, _ => rfl
  | .err _, _ => rfl
  | .nilP, _ => rfl
  | .nilS, _ => rfl
  | .nilF, _ => rfl
  | .sl _ _ _, _ => rfl
  | .iref _ _, _ => rfl
theorem pureL_free (m : Nat → Option Row) : ∀ l : List AV, idFreeL l = true → pureL m l = l
  | [], _ => rfl
  | v :: r, h => by
    simp only [idFreeL, Bool.and_eq_true] at h
    simp only [pureL, pure1_free m v h.1, pureL_free m r h.2]
end
/-- A value without the call's own rows: the rows are looked at only where it names one. -/
def pureQ1 (m : Nat → Option Row) (v : AV) : AV := match idFree v with
  | true => v
  | false => pure1 m v
theorem pureQ1_eq (m : Nat → Option Row) (v : AV) : pureQ1 m v = pure1 m v := by
  unfold pureQ1
  split
  · rename_i h; exact (pure1_free m v h).symm
  · rfl
def pureQ (m : Nat → Option Row) (l : List AV) : List AV := match idFreeL l with
  | true => l
  | false => pureL m l
theorem pureQ_eq (m : Nat → Option Row) (l : List AV) : pureQ m l = pureL m l := by
  unfold pureQ
  split
  · rename_i h; exact (pureL_free m l h).symm
  · rfl
def pureP (m : Nat → Option Row) (l : List (Nat × AV)) : List (Nat × AV) := l.map fun p => (p.1, pureQ1 m p.2)
theorem pureP_eq (m : Nat → Option Row) (l : List (Nat × AV)) : pureP m l = l.map fun p => (p.1, pure1 m p.2) := by
  unfold pureP
  simp only [pureQ1_eq]
def sndL : List (Nat × AV) → List AV
  | [] => []
  | (_, v) :: r => v :: sndL r
theorem sndL_eq (l : List (Nat × AV)) : sndL l = l.map (·.2) := by
  induction l with
  | nil => rfl
  | cons p r ih => obtain ⟨i, v⟩ := p; simp only [sndL, List.map_cons, ih]

/-- A slice out of its parts' values; 'qs': these as values of the world. -/
def abuildSl (E : Env) (t : TypeId) (n : Nat) (d : Nat) (ps qs : List (Nat × AV)) : R0 := match E.tab t with
  | some ⟨.slice e, _, _, _⟩ => match E.tab e with
    | some ⟨_, ts, _, z⟩ =>
      match partsOK (fun i => i * ts) (fun _ => ts) n (n * ts) qs, Nat.ble (n * ts) 16777216, Nat.blt 0 ts with
      | true, true, true => .eff none (.own d n) none (some ⟨e, ts, n, fun i j => pureC (fillF (fun i => i * ts) qs (fun q => nth z (q % ts)) (i * ts + j)), 0, false⟩) (fzArgs (sndL ps))
      | _, _, _ => .no
    | none => .no
  | _ => .no
theorem abuildSl_eq {E : Env} {t : TypeId} {n : Nat} {ps : Array (Nat × Operand)} {d : Nat} {ev : Operand → AV} {m : Nat → Option Row} :
    aop E (.buildSlice t n ps) d ev m = abuildSl E t n d (ps.toList.map fun p => (p.1, ev p.2)) (pureP m (ps.toList.map fun p => (p.1, ev p.2))) := by
  have e1 : pureP m (ps.toList.map fun p => (p.1, ev p.2)) = ps.toList.map fun p => (p.1, pure1 m (ev p.2)) := by
    rw [pureP_eq, List.map_map]; rfl
  have e2 : sndL (ps.toList.map fun p => (p.1, ev p.2)) = ps.toList.map fun p => ev p.2 := by
    rw [sndL_eq, List.map_map]; rfl
  simp only [aop, abuildSl, e1, e2]
  rfl

/-- A call, out of its arguments' values. -/
def acallV (E : Env) (c : Call) (d : Nat) (fv : AV) (vs : List AV) (m : Nat → Option Row) : R0 :=
  match c.callee with
  | .value _ => match fv with
    | .clo f first caps =>
      match noTups vs, E.spec f (pureQ m (first ++ vs ++ caps)) with
      | false, _ => .no
      | true, .no => .no
      | true, .ok r => .eff none r none none (fzArgs (first ++ vs ++ caps))
      | true, .okb b => .eff none (.bit b) (some b) none (fzArgs (first ++ vs ++ caps))
      | true, .pre p r => .eff (some p) r none none (fzArgs (first ++ vs ++ caps))
      | true, .flt p r => match flatR r with
        | true => .eff (some p) r none none fz0
        | false => .no
      | true, .new p r => .eff (some p) (.own d r.n) none (some r) (fzArgs (first ++ vs ++ caps))
      | true, .new2 .. => .no
    | _ => .no
  | .builtin .len => match vs, c.argTypes.toList with
    | [x], [t] => match E.tab t, x with
      | some ⟨.slice _, _, _, _⟩, .sl _ n _ => .val (.int .i64 n)
      | some ⟨.slice _, _, _, _⟩, .own _ n => .val (.int .i64 n)
      | some ⟨.slice _, _, _, _⟩, .qs _ n _ => .val (.int .i64 n)
      | some ⟨.slice _, _, _, _⟩, .nilS => .val (.int .i64 0)
      | some ⟨.array n _, _, _, _⟩, _ => .val (.int .i64 n)
      | _, _ => .no
    | _, _ => .no
  | .builtin .max => match vs with
    | [.int .i64 a, .int .i64 b] => .val (.int .i64 (max a b))
    | [.int .i64 a, .int .i64 b, .int .i64 d] => .val (.int .i64 (max (max a b) d))
    | _ => .no
  | .builtin .min => match vs with
    | [.int .i64 a, .int .i64 b] => .val (.int .i64 (min a b))
    | [.int .i64 a, .int .i64 b, .int .i64 d] => .val (.int .i64 (min (min a b) d))
    | [.int .i64 a, .int .i64 b, .int .i64 d, .int .i64 e] => .val (.int .i64 (min (min (min a b) d) e))
    | _ => .no
  | .builtin .append => match vs, c.argTypes.toList with
    | [s, x], [t, t'] => aapp E t t' s x d (rowOf m s) (rowOf m x) (apOK (rowOf m s))
    | _, _ => .no
  | _ => .no
def calleeV (c : Call) (ev : Operand → AV) : AV := match c.callee with
  | .value fo => ev fo
  | _ => .bad
theorem acallV_eq {E : Env} {c : Call} {d : Nat} {ev : Operand → AV} {m : Nat → Option Row} : acall E c d ev m = acallV E c d (calleeV c ev) (c.args.toList.map ev) m := by
  unfold acall acallV calleeV
  simp only [pureQ_eq]
  cases hc : c.callee with
  | builtin b => cases b <;> rfl
  | _ => rfl

/-- What comes of a value, with the temporary's number worked out. -/
def putF (dst : Option Nat) (σ : St) (kb : KB) (x : Option Bool) (K : St → KB → Prop) (v : AV) : Prop := match dst with
  | some d => K (σ.put d v) (kbPut kb (some d) x)
  | none => K σ kb
theorem putF_eq (dst : Option Nat) (σ : St) (kb : KB) (x : Option Bool) (K : St → KB → Prop) (v : AV) : putF dst σ kb x K v = K (σ.putO dst v) (kbPut kb dst x) := by
  cases dst <;> rfl
def evRF (dst : Option Nat) (σ : St) (kb : KB) (nk : Option Bool) (K : St → KB → Prop) (r : R0) : Prop := match r with
  | .no => False
  | .val v => putF dst σ kb nk K v
  | .valc p v => Chk p (putF dst σ kb nk K v)
  | .eff p v k new fz => match dst with
    | some d => evR (some d) σ kb nk K (.eff p v k new fz)
    | none => evR none σ kb nk K (.eff p v k new fz)
theorem evRF_eq (dst : Option Nat) (σ : St) (kb : KB) (nk : Option Bool) (K : St → KB → Prop) (r : R0) : evRF dst σ kb nk K r = evR dst σ kb nk K r := by
  cases r with
  | no => rfl
  | val v => simp only [evRF, putF_eq]; rfl
  | valc p v => simp only [evRF, putF_eq]; rfl
  | eff p v k new fz => cases dst <;> rfl
theorem evRF_fun (dst : Option Nat) (σ : St) (kb : KB) (nk : Option Bool) (K : St → KB → Prop) : evRF dst σ kb nk K = evR dst σ kb nk K := by
  funext r; exact evRF_eq ..

mutual
theorem hasId_free (id : Nat) : ∀ v : AV, idFree v = true → hasId id v = false
  | .own _ _, h => by cases h
  | .qs _ _ _, h => by cases h
  | .loc _ _, h => by cases h
  | .elt _ _ _ _, h => by cases h
  | .clo _ a b, h => by
    simp only [idFree, Bool.and_eq_true] at h
    simp only [hasId, hasIdL_free id a h.1, hasIdL_free id b h.2]; rfl
  | .agg cs, h => by
    simp only [idFree] at h
    simp only [hasId, hasIdL_free id cs h]
  | .tup vs, h => by
    simp only [idFree] at h
    simp only [hasId, hasIdL_free id vs h]
  | .bad, _ => rfl
  | .int _ _, _ => rfl
  | .bit _, _ => rfl
  | .str _, _ => rfl
  | .nilI, _ => rfl
  | .err _, _ => rfl
  | .nilP, _ => rfl
  | .nilS, _ => rfl
  | .nilF, _ => rfl
  | .sl _ _ _, _ => rfl
  | .iref _ _, _ => rfl
theorem hasIdL_free (id : Nat) : ∀ l : List AV, idFreeL l = true → hasIdL id l = false
  | [], _ => rfl
  | v :: r, h => by
    simp only [idFreeL, Bool.and_eq_true] at h
    simp only [hasIdL, hasId_free id v h.1, hasIdL_free id r h.2]; rfl
end
theorem fzArgs_free {l : List AV} (h : idFreeL l = true) : fzArgs l = fz0 := by
  funext id s
  simp only [fzArgs, hasIdL_free id l h]
  cases s <;> rfl
/-- A call that hands on nothing of the call's own leaves the rows as they are. -/
def lightR (l : List AV) (r : R0) : R0 := match r with
  | .eff none v none none fz => (match idFreeL l with | true => .val v | false => .eff none v none none fz)
  | .eff (some p) v none none fz => (match idFreeL l with | true => .valc p v | false => .eff (some p) v none none fz)
  | r => r
def callIds (fv : AV) (vs : List AV) : List AV := match fv with
  | .clo _ first caps => first ++ vs ++ caps
  | _ => vs
def lightC (c : Call) (fv : AV) (vs : List AV) (r : R0) : R0 := match c.callee with
  | .value _ => lightR (callIds fv vs) r
  | _ => r
theorem light_eq {dst : Option Nat} {σ : St} {kb : KB} {K : St → KB → Prop} {l : List AV} {p : Option Prop} {v : AV} (h : idFreeL l = true) :
    evR dst σ kb none K (.eff p v none none (fzArgs l)) = chkO p (K (σ.putO dst v) (kbPut kb dst none)) := by
  rw [fzArgs_free h]
  have e0 := effM_fz0 σ.m 0
  cases dst with
  | none =>
    show chkO p (K ⟨σ.t, effM σ.m 0 none fz0⟩ kb) = _
    rw [e0]; rfl
  | some d =>
    have e1 := effM_fz0 σ.m d
    show chkO p (K ⟨fun t => match Nat.beq t d with | true => v | false => σ.t t, effM σ.m d none fz0⟩ (kbPut kb (some d) none)) = _
    rw [e1]; rfl
theorem lightR_eq {dst : Option Nat} {σ : St} {kb : KB} {K : St → KB → Prop} {l : List AV} {p : Option Prop} {v : AV} {k : Option Bool} :
    evR dst σ kb none K (lightR l (.eff p v k none (fzArgs l))) = evR dst σ kb none K (.eff p v k none (fzArgs l)) := by
  cases k with
  | some b => cases p <;> rfl
  | none =>
    cases h : idFreeL l with
    | false => cases p <;> simp only [lightR, h]
    | true =>
      rw [light_eq h]
      cases p <;> simp only [lightR, h] <;> rfl
theorem light0_eq {dst : Option Nat} {σ : St} {kb : KB} {K : St → KB → Prop} {p : Option Prop} {v : AV} :
    evR dst σ kb none K (.eff p v none none fz0) = chkO p (K (σ.putO dst v) (kbPut kb dst none)) := by
  have := light_eq (dst := dst) (σ := σ) (kb := kb) (K := K) (l := []) (p := p) (v := v) rfl
  rwa [fzArgs_free (l := []) rfl] at this
theorem lightR0_eq {dst : Option Nat} {σ : St} {kb : KB} {K : St → KB → Prop} {l : List AV} {p : Prop} {v : AV} :
    evR dst σ kb none K (lightR l (.eff (some p) v none none fz0)) = evR dst σ kb none K (.eff (some p) v none none fz0) := by
  cases h : idFreeL l with
  | false => simp only [lightR, h]
  | true =>
    rw [light0_eq]
    simp only [lightR, h]
    rfl
theorem lightC_eq {E : Env} {c : Call} {d : Nat} {fv : AV} {vs : List AV} {m : Nat → Option Row} {dst : Option Nat} {σ : St} {kb : KB} {K : St → KB → Prop} :
    evR dst σ kb none K (lightC c fv vs (acallV E c d fv vs m)) = evR dst σ kb none K (acallV E c d fv vs m) := by
  unfold lightC
  split
  · rename_i x hc
    unfold acallV
    rw [hc]
    simp only []
    split
    · split <;> first
        | rfl
        | exact lightR_eq
        | (split
           · exact lightR0_eq
           · rfl)
    · rfl
  · rfl

noncomputable def evOpF (E : Env) (o : Oper) (σ : St) (kb : KB) (K : St → KB → Prop) : Prop :=
  match o.op with
  | .pick c a b => match kbOf kb c with
    | some true => force (evO σ.t a) (putF o.dst σ kb (kbOf kb a) K)
    | some false => force (evO σ.t b) (putF o.dst σ kb (kbOf kb b) K)
    | none => match evO σ.t c with
      | .bit v => Brn v (force (evO σ.t a) (putF o.dst σ (kbMark kb c true) (kbOf kb a) K)) (force (evO σ.t b) (putF o.dst σ (kbMark kb c false) (kbOf kb b) K))
      | _ => False
  | .move x => force (evO σ.t x) (putF o.dst σ kb (kbOf kb x) K)
  | .assign x => force (evO σ.t x) (putF o.dst σ kb (kbOf kb x) K)
  | .unOp .not t x => forceR (aop E (.unOp .not t x) (o.dst.getD 0) (evO σ.t) σ.m) (evRF o.dst σ kb ((kbOf kb x).map not) K)
  | .store t x y => force (evO σ.t x) fun x => force (evO σ.t y) fun y => match o.dst, sop E t x y σ.m with
    | none, some (id, r) => K ⟨σ.t, fun k => match Nat.beq k id with | true => some r | false => σ.m k⟩ kb
    | _, _ => False
  | .box e x => force (evO σ.t x) fun v => forceR (aop E (.box e x) (o.dst.getD 0) (fun _ => v) σ.m) (evRF o.dst σ kb none K)
  | .build t ps => forceP (ps.toList.map fun p => (p.1, evO σ.t p.2)) fun l => forceR (abuild E t l) (evRF o.dst σ kb none K)
  | .buildSlice t n ps => forceP (ps.toList.map fun p => (p.1, evO σ.t p.2)) fun l => forceP (pureP σ.m l) fun q => forceR (abuildSl E t n (o.dst.getD 0) l q) (evRF o.dst σ kb none K)
  | .call c => force (calleeV c (evO σ.t)) fun fv => forceL2 (c.args.toList.map (evO σ.t)) fun vs => forceR (lightC c fv vs (acallV E c (o.dst.getD 0) fv vs σ.m)) (evRF o.dst σ kb none K)
  | op => forceR (aop E op (o.dst.getD 0) (evO σ.t) σ.m) (evRF o.dst σ kb none K)

theorem evOpF_eq (E : Env) (o : Oper) (σ : St) (kb : KB) (K : St → KB → Prop) : evOpF E o σ kb K = evOp E o σ kb K := by
  unfold evOpF evOp
  cases ho : o.op <;> simp only [force_eq, evRF_fun, forceR_eq, forceP_eq, forceL2_eq, ← abuild_eq, ← abuildSl_eq, putF_eq, lightC_eq, ← acallV_eq] <;> first
    | rfl
    | skip
  rename_i op _ _
  cases op <;> rfl

noncomputable def evStepF (E : Env) (ops : List Oper) (o : Oper) (ih : St → KB → (St → KB → Prop) → Prop) (σ : St) (kb : KB) (K : St → KB → Prop) : Prop :=
  match o.guard with
    | none => evOpF E o σ kb (fun σ' kb' => ih σ' kb' K)
    | some (j, want) => match gdst ops j with
      | none => False
      | some d => match kb d with
        | some b => match b, want with
          | true, true => evOpF E o σ kb (fun σ' kb' => ih σ' kb' K)
          | false, false => evOpF E o σ kb (fun σ' kb' => ih σ' kb' K)
          | _, _ => ih (σ.putO o.dst (.tup [])) (kbPut kb o.dst none) K
        | none => match σ.t d with
          | .bit b => match want with
            | true => Brn b (evOpF E o σ (kbPut kb (some d) (some true)) (fun σ' kb' => ih σ' kb' K))
                (ih (σ.putO o.dst (.tup [])) (kbPut (kbPut kb (some d) (some false)) o.dst none) K)
            | false => Brn b (ih (σ.putO o.dst (.tup [])) (kbPut (kbPut kb (some d) (some true)) o.dst none) K)
                (evOpF E o σ (kbPut kb (some d) (some false)) (fun σ' kb' => ih σ' kb' K))
          | .tup [] => ih (σ.putO o.dst (.tup [])) (kbPut kb o.dst none) K
          | _ => False
theorem evStepF_eq (E : Env) (ops : List Oper) (o : Oper) (r : List Oper) (σ : St) (kb : KB) (K : St → KB → Prop) : evStepF E ops o (evOps E ops r) σ kb K = evOps E ops (o :: r) σ kb K := by
  unfold evStepF
  simp only [evOps, evOpF_eq]
  rfl
noncomputable def evOpsF (E : Env) (ops l : List Oper) : St → KB → (St → KB → Prop) → Prop :=
  List.rec (fun σ kb K => K σ kb) (fun o _ ih => evStepF E ops o ih) l
theorem evOpsF_eq (E : Env) (ops : List Oper) : ∀ (l : List Oper), evOpsF E ops l = evOps E ops l
  | [] => rfl
  | o :: r => by
    funext σ kb K
    show evStepF E ops o (evOpsF E ops r) σ kb K = _
    rw [evOpsF_eq E ops r]
    exact evStepF_eq E ops o r σ kb K

def fzL (l : List AV) : Nat → Nat → Nat := match idFreeL l with
  | true => fz0
  | false => fzArgs l
theorem fzL_eq (l : List AV) : fzL l = fzArgs l := by
  unfold fzL
  cases h : idFreeL l with
  | false => rfl
  | true => exact (fzArgs_free h).symm
noncomputable def evOpsSF (E : Env) (ops l : List Oper) : St → KB → (St → KB → Prop) → Prop :=
  List.rec (fun σ kb K => K σ kb) (fun o _ ih σ kb K => match nilOp o with
    | none => match inlOp E o with
     | some (d, c, g) => InlP E σ fun S tv tk rv => inlA (c.args.toList.map (evO (lookV tv))) fun l => g S rv l fun v m' => ih ⟨putV tk d v, m'⟩ kb0 K
     | none => match callOp E o with
      | none => evStepF E ops o ih σ kb K
      | some (d, f, c) => forceL2 (c.args.toList.map (evO σ.t)) fun l => match call2 E f l σ.m, σ.m d, σ.m (d + 500) with
        | some ⟨args, p, r1, r2, rest⟩, none, none => Chk p (ih ⟨fun t => match Nat.beq t d with | true => .agg (.own d r1.n :: .own (d + 500) r2.n :: rest) | false => σ.t t, effM (effM σ.m d (some r1) (fzL args)) (d + 500) (some r2) fz0⟩ (kbPut kb (some d) none) K)
        | _, _, _ => False
    | some _ => match nilCmp E o σ.t with
      | some (d, n) => ∀ b : Bool, (0 < n → b = false) → ih (σ.put d (.bit b)) (kbPut kb (some d) none) K
      | none => evStepF E ops o ih σ kb K) l
theorem evStepF_one (E : Env) (ops : List Oper) (o : Oper) (ih : St → KB → (St → KB → Prop) → Prop) (σ : St) (kb : KB) (K : St → KB → Prop) :
    evStepF E ops o ih σ kb K = evOps E ops [o] σ kb (fun σ' kb' => ih σ' kb' K) := by
  rw [← evStepF_eq]
  rfl
theorem evOpsSF_eq (E : Env) (ops : List Oper) : ∀ (l : List Oper), evOpsSF E ops l = evOpsS E ops l
  | [] => rfl
  | o :: r => by
    funext σ kb K
    show (match nilOp o with
      | none => match inlOp E o with
       | some (d, c, g) => InlP E σ fun S tv tk rv => inlA (c.args.toList.map (evO (lookV tv))) fun l => g S rv l fun v m' => evOpsSF E ops r ⟨putV tk d v, m'⟩ kb0 K
       | none => match callOp E o with
        | none => evStepF E ops o (evOpsSF E ops r) σ kb K
        | some (d, f, c) => forceL2 (c.args.toList.map (evO σ.t)) fun l => match call2 E f l σ.m, σ.m d, σ.m (d + 500) with
          | some ⟨args, p, r1, r2, rest⟩, none, none => Chk p (evOpsSF E ops r ⟨fun t => match Nat.beq t d with | true => .agg (.own d r1.n :: .own (d + 500) r2.n :: rest) | false => σ.t t, effM (effM σ.m d (some r1) (fzL args)) (d + 500) (some r2) fz0⟩ (kbPut kb (some d) none) K)
          | _, _, _ => False
      | some _ => match nilCmp E o σ.t with
        | some (d, n) => ∀ b : Bool, (0 < n → b = false) → evOpsSF E ops r (σ.put d (.bit b)) (kbPut kb (some d) none) K
        | none => evStepF E ops o (evOpsSF E ops r) σ kb K) = _
    simp only [evOpsSF_eq E ops r, evStepF_one, forceL2_eq, fzL_eq]
    rfl

noncomputable def evF (E : Env) (c : Code) : St → KB → (Ex → St → KB → Prop) → Prop :=
  Code.rec (motive := fun _ => St → KB → (Ex → St → KB → Prop) → Prop)
    (fun σ kb Q => Q .normal σ kb)
    (fun _ ops draw σ kb Q => match draw, hasStore ops.toList with
      | false, _ => evOpsSF E ops.toList ops.toList σ kb (Q .normal)
      | true, false => evOpsF E ops.toList ops.toList σ kb (Q .normal)
      | true, true => evOpsF E ops.toList ops.toList σ kb (fun σ' kb' => Chk (regOK ops σ'.t = true) (Q .normal σ' kb')))
    (fun _ _ fa fb σ kb Q => fa σ kb (fun e σ' kb' => match e with
      | .normal => fb σ' kb' Q
      | e => Q e σ' kb'))
    (fun c _ _ fx fy σ kb Q => match kbOf kb c with
      | some true => fx σ kb Q
      | some false => fy σ kb Q
      | none => match evO σ.t c with
        | .bit b => Brn b (fx σ (kbMark kb c true) Q) (fy σ (kbMark kb c false) Q)
        | _ => False)
    (fun id _ fx σ kb Q => fx σ kb (fun e σ' kb' => match e with
      | .exit j => (match Nat.beq j id with | true => Q .normal σ' kb' | false => Q (.exit j) σ' kb')
      | e => Q e σ' kb'))
    (fun _ fx σ _ Q => LoopOK E fx σ Q)
    (fun _ _ _ _ _ _ _ _ _ => False)
    (fun id σ kb Q => Q (.exit id) σ kb)
    (fun _ _ _ _ _ => False)
    (fun _ σ kb Q => Q .normal σ kb)
    (fun _ _ _ _ => False)
    (fun σ kb Q => Q .ret σ kb)
    (fun _ _ _ _ => False) c
theorem evF_eq (E : Env) : ∀ (c : Code), evF E c = ev E c
  | .skip => rfl
  | .label _ => rfl
  | .region _ ops draw => by
    funext σ kb Q
    show (match draw, hasStore ops.toList with
      | false, _ => evOpsSF E ops.toList ops.toList σ kb (Q .normal)
      | true, false => evOpsF E ops.toList ops.toList σ kb (Q .normal)
      | true, true => evOpsF E ops.toList ops.toList σ kb (fun σ' kb' => Chk (regOK ops σ'.t = true) (Q .normal σ' kb'))) = _
    simp only [ev, evOpsF_eq, evOpsSF_eq]
    rfl
  | .seq a b => by
    funext σ kb Q
    show evF E a σ kb (fun e σ' kb' => match e with
      | .normal => evF E b σ' kb' Q
      | e => Q e σ' kb') = _
    simp only [ev, evF_eq E a, evF_eq E b]
    rfl
  | .cond c x y => by
    funext σ kb Q
    show (match kbOf kb c with
      | some true => evF E x σ kb Q
      | some false => evF E y σ kb Q
      | none => match evO σ.t c with
        | .bit b => Brn b (evF E x σ (kbMark kb c true) Q) (evF E y σ (kbMark kb c false) Q)
        | _ => False) = _
    simp only [ev, evF_eq E x, evF_eq E y]
    rfl
  | .block id x => by
    funext σ kb Q
    show evF E x σ kb (fun e σ' kb' => match e with
      | .exit j => (match Nat.beq j id with | true => Q .normal σ' kb' | false => Q (.exit j) σ' kb')
      | e => Q e σ' kb') = _
    simp only [ev, evF_eq E x]
    rfl
  | .loop x => by
    funext σ kb Q
    show LoopOK E (evF E x) σ Q = _
    simp only [ev, evF_eq E x]
  | .exit _ => rfl
  | .ret => rfl
  | .rangeFunc .. => rfl
  | .scope _ => rfl
  | .goto _ => rfl
  | .refuse _ => rfl

noncomputable def evFnF (E : Env) (fn : Func) (args : List AV) (Q : AV → Prop) : Prop :=
  match fn.body with
  | some c => forceL2 args fun args => evF E c ⟨initT args, fun _ => none⟩ kb0 (fun e σ _ => match e with
    | .exit _ => False
    | _ => match resAV E fn σ with
      | some v => force (pureQ1 σ.m v) Q
      | none => False)
  | none => False
theorem evFnF_eq (E : Env) (fn : Func) (args : List AV) (Q : AV → Prop) : evFnF E fn args Q = evFn E fn args Q := by
  unfold evFnF evFn
  cases fn.body with
  | none => rfl
  | some c => simp only [forceL2_eq, force_eq, evF_eq, pureQ1_eq]; rfl

variable {P : Program} {T : TypeId} {tabs : List (Nat × TD)} {specs : List (Nat × Sp)}
theorem fn_ofF (h : (tabs.all fun p => tdOK P p.1 p.2) = true) (sp : SpecOK P (env T tabs specs)) (hm : P.follows .mixedOrders = true) {f : FuncId} {fn : Func} {args : List AV} {r : AV}
    (hf : P.funcs[f]? = some fn) (hb : fnB fn args.length = true) (he : evFnF (env T tabs specs) fn args (fun r' => AVle T r' r)) : FnOK P T f args r :=
  fn_of h sp hm hf hb (by rw [← evFnF_eq]; exact he)

noncomputable def evNewF (E : Env) (fn : Func) (args : List AV) (r : Row) : Prop :=
  match fn.body with
  | some c => forceL2 args fun args => evF E c ⟨initT args, fun _ => none⟩ kb0 (fun e σ _ => match e with
    | .exit _ => False
    | _ => match resAV E fn σ with
      | some v => force v fun v => NewOf E.errT σ.m v r
      | none => False)
  | none => False
theorem evNewF_eq (E : Env) (fn : Func) (args : List AV) (r : Row) : evNewF E fn args r = evNew E fn args r := by
  unfold evNewF evNew
  cases fn.body with
  | none => rfl
  | some c => simp only [forceL2_eq, force_eq, evF_eq]; rfl
theorem fn_newF (h : (tabs.all fun p => tdOK P p.1 p.2) = true) (sp : SpecOK P (env T tabs specs)) (hm : P.follows .mixedOrders = true) {f : FuncId} {fn : Func} {args : List AV} {r : Row}
    (hf : P.funcs[f]? = some fn) (hb : fnB fn args.length = true) (hbx : r.bx = false) (hflat : ∀ i j, i < r.n → j < r.sz → flatC (r.f i j) = true) (he : evNewF (env T tabs specs) fn args r) : FnNew P T f args r := by
  unfold fnB at hb
  split at hb
  · rename_i c hc
    simp only [Bool.and_eq_true] at hb
    exact fnNew_of_ev (tabOK_of h) rfl sp (inlOK_none fun _ => rfl) hm hf hc hb.1 (by simpa using hb.2) hbx hflat (by rw [← evNewF_eq]; exact he)
  · cases hb

noncomputable def evNew2F (E : Env) (fn : Func) (args : List AV) (r1 r2 : Row) (rest : List AV) : Prop :=
  match fn.body with
  | some c => forceL2 args fun args => evF E c ⟨initT args, fun _ => none⟩ kb0 (fun e σ _ => match e with
    | .exit _ => False
    | _ => match resAV E fn σ with
      | some v => force v fun v => NewOf2 σ.m v r1 r2 rest
      | none => False)
  | none => False
theorem evNew2F_eq (E : Env) (fn : Func) (args : List AV) (r1 r2 : Row) (rest : List AV) : evNew2F E fn args r1 r2 rest = evNew2 E fn args r1 r2 rest := by
  unfold evNew2F evNew2
  cases fn.body with
  | none => rfl
  | some c => simp only [forceL2_eq, force_eq, evF_eq]; rfl
theorem fn_new2F (h : (tabs.all fun p => tdOK P p.1 p.2) = true) (sp : SpecOK P (env T tabs specs)) (hm : P.follows .mixedOrders = true) {f : FuncId} {fn : Func} {args : List AV} {r1 r2 : Row} {rest : List AV}
    (hf : P.funcs[f]? = some fn) (hb : fnB fn args.length = true) (hbx1 : r1.bx = false) (hbx2 : r2.bx = false) (hflat1 : ∀ i j, i < r1.n → j < r1.sz → flatC (r1.f i j) = true) (hflat2 : ∀ i j, i < r2.n → j < r2.sz → flatC (r2.f i j) = true) (hrest : ∀ v, v ∈ rest → flatC v = true) (he : evNew2F (env T tabs specs) fn args r1 r2 rest) : FnNew2 P T f args r1 r2 rest := by
  unfold fnB at hb
  split at hb
  · rename_i c hc
    simp only [Bool.and_eq_true] at hb
    exact fnNew2_of_ev (tabOK_of h) rfl sp (inlOK_none fun _ => rfl) hm hf hc hb.1 (by simpa using hb.2) hbx1 hbx2 hflat1 hflat2 hrest (by rw [← evNew2F_eq]; exact he)
  · cases hb

theorem argAll1 {E : Env} {d : Nat} {t : TypeId} : ∀ {avs : List AV}, ArgAll E d [t] avs → ∃ l, Arg E d t l ∧ avs = [argAV E t l]
  | [_], ⟨⟨l, h, e⟩, _⟩ => ⟨l, h, by rw [e]⟩
theorem argAll2 {E : Env} {d : Nat} {t u : TypeId} : ∀ {avs : List AV}, ArgAll E d [t, u] avs → ∃ l m, Arg E d t l ∧ Arg E d u m ∧ avs = [argAV E t l, argAV E u m]
  | [_, _], ⟨⟨l, h, e⟩, ⟨m, h2, e2⟩, _⟩ => ⟨l, m, h, h2, by rw [e, e2]⟩
theorem argAll3 {E : Env} {d : Nat} {t u v : TypeId} : ∀ {avs : List AV}, ArgAll E d [t, u, v] avs → ∃ l m n, Arg E d t l ∧ Arg E d u m ∧ Arg E d v n ∧ avs = [argAV E t l, argAV E u m, argAV E v n]
  | [_, _, _], ⟨⟨l, h, e⟩, ⟨m, h2, e2⟩, ⟨n, h3, e3⟩, _⟩ => ⟨l, m, n, h, h2, h3, by rw [e, e2, e3]⟩
end Go.Proofs.Ytbhbjmneglkgnaa.AI
