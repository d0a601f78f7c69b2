/- A region of the evaluator is the model's, in whatever order the model draws. Conditions: none. -/
import Derived.Test.YtbhbjmneglkgnaaAiStep
import Derived.Still
namespace Go.Proofs.Ytbhbjmneglkgnaa.AI
open Go Go.RowKit

variable {P : Program} {E : Env} {N B : Nat} {w0 : World} {I0 : Nat → Nat → Prop}

/-- What the caller knows is kept: its rows lie where they lay, its frozen cells stay. -/
def Gh (E : Env) (ρ : Nat → Place) (I : Nat → Nat → Prop) (w : World) : Prop := match E.base with
  | none => True
  | some b => ExtK E.keep b.ρ b.I b.w ρ I w
theorem Gh.monoK {S : List Nat} {ρ ρ' : Nat → Place} {I I' : Nat → Nat → Prop} {w w' : World} (h : Gh E ρ I w) (X : ExtK S ρ I w ρ' I' w') (hs : ∀ id, id ∈ E.keep → id ∈ S) : Gh E ρ' I' w' := by
  unfold Gh at h ⊢
  split at h
  · trivial
  · exact h.trans X hs
theorem Gh.mono {ρ ρ' : Nat → Place} {I I' : Nat → Nat → Prop} {w w' : World} (h : Gh E ρ I w) (X : Ext ρ I w ρ' I' w') : Gh E ρ' I' w' := h.monoK (.of (S := E.keep) X) fun _ h => h
/-- What else holds of a frame. -/
structure Rest (E : Env) (B : Nat) (I0 : Nat → Nat → Prop) (ρ : Nat → Place) (I : Nat → Nat → Prop) (w : World) (a : Act) : Prop where
  d : a.defers = []
  g : Gh E ρ I w
  i : ∀ b k, I0 b k → b < B
theorem Rest.mono {ρ ρ' : Nat → Place} {I I' : Nat → Nat → Prop} {w w' : World} {a a' : Act} (h : Rest E B I0 ρ I w a) (X : Ext ρ I w ρ' I' w') (hd : a'.defers = a.defers) : Rest E B I0 ρ' I' w' a' :=
  ⟨hd.trans h.d, h.g.mono X, h.i⟩
/-- A frame and a world that a state of the evaluator stands for. -/
def Rel (E : Env) (N B : Nat) (w0 : World) (I0 : Nat → Nat → Prop) (σ : St) (a : Act) (w : World) : Prop :=
  ∃ ρ I, MRel E.errT B w0 I0 ρ I σ.m w ∧ (∀ i, Rep E.errT I w ρ (σ.t i) (a.tmps.getD i undef)) ∧ a.tmps.size = N ∧ Rest E B I0 ρ I w a

mutual
theorem rep1_dom {T : TypeId} {I : Nat → Nat → Prop} {w : World} {ρ : Nat → Place} {id : Nat} : ∀ (v : AV) (x : Value), Rep1 T I w ρ v x → hasId id v = true → ρ id ≠ .no
  | .qs i n f, x, h, hid => by
    have : i = id := Nat.eq_of_beq_eq_true (by simpa [hasId] using hid)
    subst this
    simp only [Rep1] at h
    rcases h with ⟨g, cap, e, hp, _⟩ | ⟨sz, hp, _⟩ <;> rw [hp] <;> simp
  | .own i n, x, h, hid => by
    have : i = id := Nat.eq_of_beq_eq_true (by simpa [hasId] using hid)
    subst this
    simp only [Rep1] at h
    rcases h with ⟨g, cap, sz, hp, _⟩ | ⟨sz, hp, _⟩ <;> rw [hp] <;> simp
  | .loc i j, x, h, hid => by
    have : i = id := Nat.eq_of_beq_eq_true (by simpa [hasId] using hid)
    subst this
    simp only [Rep1] at h
    obtain ⟨g, cap, sz, n, hp, _⟩ := h
    rw [hp]; simp
  | .elt i a b k, x, h, hid => by
    have : i = id := Nat.eq_of_beq_eq_true (by simpa [hasId] using hid)
    subst this
    simp only [Rep1] at h
    obtain ⟨g, cap, sz, n, hp, _⟩ := h
    rw [hp]; simp
  | .clo f a b, x, h, hid => by
    simp only [Rep1] at h
    obtain ⟨xs, ys, _, h1, h2⟩ := h
    simp only [hasId, Bool.or_eq_true] at hid
    rcases hid with hid | hid
    · exact repM_dom a _ h1 hid
    · exact repM_dom b _ h2 hid
  | .agg _, _, h, _ => by simp only [Rep1] at h
  | .tup _, _, h, _ => by simp only [Rep1] at h
  | .bad, _, _, hid => by simp [hasId] at hid
  | .int _ _, _, _, hid => by simp [hasId] at hid
  | .bit _, _, _, hid => by simp [hasId] at hid
  | .str _, _, _, hid => by simp [hasId] at hid
  | .nilI, _, _, hid => by simp [hasId] at hid
  | .err _, _, _, hid => by simp [hasId] at hid
  | .nilP, _, _, hid => by simp [hasId] at hid
  | .nilS, _, _, hid => by simp [hasId] at hid
  | .nilF, _, _, hid => by simp [hasId] at hid
  | .sl _ _ _, _, _, hid => by simp [hasId] at hid
  | .iref _ _, _, _, hid => by simp [hasId] at hid
theorem repL_dom {T : TypeId} {I : Nat → Nat → Prop} {w : World} {ρ : Nat → Place} {id : Nat} : ∀ (l : List AV) (xs : List Value), RepL T I w ρ l xs → hasIdL id l = true → ρ id ≠ .no
  | [], _, _, hid => by simp [hasIdL] at hid
  | v :: r, x :: s, h, hid => by
    simp only [RepL] at h
    simp only [hasIdL, Bool.or_eq_true] at hid
    rcases hid with hid | hid
    · exact rep1_dom v x h.1.2 hid
    · exact repL_dom r s h.2 hid
  | _ :: _, [], h, _ => by simp only [RepL] at h
theorem repM_dom {T : TypeId} {I : Nat → Nat → Prop} {w : World} {ρ : Nat → Place} {id : Nat} : ∀ (l : List AV) (xs : List Value), RepM T I w ρ l xs → hasIdL id l = true → ρ id ≠ .no
  | [], _, _, hid => by simp [hasIdL] at hid
  | .agg cs :: r, x :: s, h, hid => by
    simp only [RepM] at h
    obtain ⟨⟨arr, hv, h1⟩, h2⟩ := h
    simp only [hasIdL, hasId, Bool.or_eq_true] at hid
    rcases hid with hid | hid
    · exact repL_dom cs _ h1 hid
    · exact repM_dom r s h2 hid
  | .tup vs :: r, x :: s, h, hid => by simp only [RepM, Rep1] at h; exact h.1.elim
  | .bad :: r, x :: s, h, hid => by
    simp only [RepM] at h
    rw [hasIdL, Bool.or_eq_true] at hid
    rcases hid with hid | hid
    · exact rep1_dom (.bad) x h.1 hid
    · exact repM_dom r s h.2 hid
  | .int k z :: r, x :: s, h, hid => by
    simp only [RepM] at h
    rw [hasIdL, Bool.or_eq_true] at hid
    rcases hid with hid | hid
    · exact rep1_dom (.int k z) x h.1 hid
    · exact repM_dom r s h.2 hid
  | .bit b :: r, x :: s, h, hid => by
    simp only [RepM] at h
    rw [hasIdL, Bool.or_eq_true] at hid
    rcases hid with hid | hid
    · exact rep1_dom (.bit b) x h.1 hid
    · exact repM_dom r s h.2 hid
  | .str z :: r, x :: s, h, hid => by
    simp only [RepM] at h
    rw [hasIdL, Bool.or_eq_true] at hid
    rcases hid with hid | hid
    · exact rep1_dom (.str z) x h.1 hid
    · exact repM_dom r s h.2 hid
  | .nilI :: r, x :: s, h, hid => by
    simp only [RepM] at h
    rw [hasIdL, Bool.or_eq_true] at hid
    rcases hid with hid | hid
    · exact rep1_dom (.nilI) x h.1 hid
    · exact repM_dom r s h.2 hid
  | .err z :: r, x :: s, h, hid => by
    simp only [RepM] at h
    rw [hasIdL, Bool.or_eq_true] at hid
    rcases hid with hid | hid
    · exact rep1_dom (.err z) x h.1 hid
    · exact repM_dom r s h.2 hid
  | .nilP :: r, x :: s, h, hid => by
    simp only [RepM] at h
    rw [hasIdL, Bool.or_eq_true] at hid
    rcases hid with hid | hid
    · exact rep1_dom (.nilP) x h.1 hid
    · exact repM_dom r s h.2 hid
  | .nilS :: r, x :: s, h, hid => by
    simp only [RepM] at h
    rw [hasIdL, Bool.or_eq_true] at hid
    rcases hid with hid | hid
    · exact rep1_dom (.nilS) x h.1 hid
    · exact repM_dom r s h.2 hid
  | .nilF :: r, x :: s, h, hid => by
    simp only [RepM] at h
    rw [hasIdL, Bool.or_eq_true] at hid
    rcases hid with hid | hid
    · exact rep1_dom (.nilF) x h.1 hid
    · exact repM_dom r s h.2 hid
  | .clo f a b :: r, x :: s, h, hid => by
    simp only [RepM] at h
    rw [hasIdL, Bool.or_eq_true] at hid
    rcases hid with hid | hid
    · exact rep1_dom (.clo f a b) x h.1 hid
    · exact repM_dom r s h.2 hid
  | .sl k n f :: r, x :: s, h, hid => by
    simp only [RepM] at h
    rw [hasIdL, Bool.or_eq_true] at hid
    rcases hid with hid | hid
    · exact rep1_dom (.sl k n f) x h.1 hid
    · exact repM_dom r s h.2 hid
  | .iref k g :: r, x :: s, h, hid => by
    simp only [RepM] at h
    rw [hasIdL, Bool.or_eq_true] at hid
    rcases hid with hid | hid
    · exact rep1_dom (.iref k g) x h.1 hid
    · exact repM_dom r s h.2 hid
  | .loc i j :: r, x :: s, h, hid => by
    simp only [RepM] at h
    rw [hasIdL, Bool.or_eq_true] at hid
    rcases hid with hid | hid
    · exact rep1_dom (.loc i j) x h.1 hid
    · exact repM_dom r s h.2 hid
  | .elt i j k l :: r, x :: s, h, hid => by
    simp only [RepM] at h
    rw [hasIdL, Bool.or_eq_true] at hid
    rcases hid with hid | hid
    · exact rep1_dom (.elt i j k l) x h.1 hid
    · exact repM_dom r s h.2 hid
  | .qs i n f :: r, x :: s, h, hid => by
    simp only [RepM] at h
    rw [hasIdL, Bool.or_eq_true] at hid
    rcases hid with hid | hid
    · exact rep1_dom (.qs i n f) x h.1 hid
    · exact repM_dom r s h.2 hid
  | .own i n :: r, x :: s, h, hid => by
    simp only [RepM] at h
    rw [hasIdL, Bool.or_eq_true] at hid
    rcases hid with hid | hid
    · exact rep1_dom (.own i n) x h.1 hid
    · exact repM_dom r s h.2 hid
  | _ :: _, [], h, _ => by simp only [RepM] at h
end
theorem rep2_dom {T : TypeId} {I : Nat → Nat → Prop} {w : World} {ρ : Nat → Place} {id : Nat} (v : AV) (x : Value) (h : Rep2 T I w ρ v x) (hid : hasId id v = true) : ρ id ≠ .no := by
  cases v <;> first
    | exact rep1_dom _ x (by simpa only [Rep2] using h) hid
    | (simp only [Rep2] at h; obtain ⟨arr, _, hl⟩ := h; exact repL_dom _ _ hl (by simpa [hasId] using hid))
theorem rep2L_dom {T : TypeId} {I : Nat → Nat → Prop} {w : World} {ρ : Nat → Place} {id : Nat} : ∀ (l : List AV) (xs : List Value), Rep2L T I w ρ l xs → hasIdL id l = true → ρ id ≠ .no
  | [], _, _, hid => by simp [hasIdL] at hid
  | v :: r, x :: s, h, hid => by
    simp only [hasIdL, Bool.or_eq_true] at hid
    rcases hid with hid | hid
    · exact rep2_dom v x h.1 hid
    · exact rep2L_dom r s h.2 hid
  | _ :: _, [], h, _ => h.elim
theorem rep_dom {T : TypeId} {I : Nat → Nat → Prop} {w : World} {ρ : Nat → Place} {id : Nat} (v : AV) (x : Value) (h : Rep T I w ρ v x) (hid : hasId id v = true) : ρ id ≠ .no := by
  cases v <;> first
    | exact rep2_dom _ x (by simpa only [Rep] using h) hid
    | (simp only [Rep] at h; obtain ⟨arr, _, hl⟩ := h; exact rep2L_dom _ _ hl (by simpa [hasId] using hid))

theorem Rel.dom {σ : St} {a : Act} {w : World} (h : Rel E N B w0 I0 σ a w) {id : Nat} (x : Operand) (hid : hasId id (evO σ.t x) = true) : σ.m id ≠ none := by
  obtain ⟨ρ, I, M, ht, _, _⟩ := h
  intro hn
  have hx : Rep E.errT I w ρ (evO σ.t x) ((⟨a.tmps, a.defers⟩ : Act).eval x) := rep_ev ht x
  exact rep_dom _ _ hx hid (M.dom id hn)

def wantedA (ops : List Oper) (o : Oper) (t : Nat → AV) : Option Bool :=
  match o.guard with
  | none => some true
  | some (j, want) => match gdst ops j with
    | none => none
    | some d => match t d with
      | .bit b => some (b == want)
      | .tup [] => some false
      | _ => none

def isStore : Op → Bool
  | .store _ _ _ => true
  | _ => false

def GProd (E : Env) (ops : List Oper) (o : Oper) (σ : St) (v : AV) (new : Option Row) (fz : Nat → Nat → Nat) : Prop :=
  (wantedA ops o σ.t = some true ∧ isStore o.op = false ∧ prodR (aop E o.op (o.dst.getD 0) (evO σ.t) σ.m) v new fz) ∨ (wantedA ops o σ.t = some false ∧ v = .tup [] ∧ new = none ∧ fz = fz0)

def appE (dst : Option Nat) (σ : St) (v : AV) (new : Option Row) (fz : Nat → Nat → Nat) : St :=
  match dst with
  | some d => σ.eff d v new fz
  | none => ⟨σ.t, effM σ.m 0 none fz⟩

/-- One operation of a region, not a store. -/
def GStep0 (E : Env) (ops : List Oper) (o : Oper) (σ σ' : St) : Prop :=
  ∃ v new fz, GProd E ops o σ v new fz ∧ (new.isSome = true → ∃ d, o.dst = some d ∧ σ.m d = none) ∧ σ' = appE o.dst σ v new fz
/-- A store. -/
def GStep1 (E : Env) (ops : List Oper) (o : Oper) (σ σ' : St) : Prop :=
  wantedA ops o σ.t = some true ∧ o.dst = none ∧ ∃ t x y id r, o.op = .store t x y ∧ sop E t (evO σ.t x) (evO σ.t y) σ.m = some (id, r) ∧ σ' = ⟨σ.t, setM σ.m id r⟩
def GStep (E : Env) (ops : List Oper) (o : Oper) (σ σ' : St) : Prop := GStep0 E ops o σ σ' ∨ GStep1 E ops o σ σ'

theorem gdst_eq : ∀ (l : List Oper) (j : Nat), gdst l j = (l[j]?).bind (·.dst)
  | [], j => by simp [gdst]
  | o :: _, 0 => by simp [gdst]
  | _ :: r, j + 1 => by simpa [gdst] using gdst_eq r j

theorem wantedA_sound {ops : Array Oper} {o : Oper} {σ : St} {a : Act} {w : World} (hr : Rel E N B w0 I0 σ a w) {b : Bool} (h : wantedA ops.toList o σ.t = some b) : Region.wanted o (yielded ops a.tmps) = b := by
  obtain ⟨ρ, I, M, ht, _, _⟩ := hr
  unfold wantedA at h
  unfold Region.wanted
  cases hg : o.guard with
  | none => simp only [hg] at h; exact Option.some.inj h
  | some jw =>
    obtain ⟨j, want⟩ := jw
    simp only [hg] at h
    rw [gdst_eq, Array.getElem?_toList] at h
    cases hd : (ops[j]?).bind (·.dst) with
    | none => simp [hd] at h
    | some d =>
      simp only [hd] at h
      split at h
      · rename_i c hc
        have h1 := ht d
        rw [hc, rep_bit] at h1
        have h2 : a.tmps[d]? = some (.bool c) := by
          rw [Array.getD_eq_getD_getElem?] at h1
          cases hx : a.tmps[d]? with
          | none => rw [hx] at h1; simp [undef] at h1
          | some v => rw [hx] at h1; simpa using h1
        simp only [yielded, hd, Option.bind_some, h2]
        have h3 := Option.some.inj h
        rw [← h3]
        cases c <;> cases want <;> decide
      · rename_i hc
        have h1 := ht d
        rw [hc] at h1
        simp only [Rep] at h1
        obtain ⟨arr, h1, h2⟩ := h1
        have h3 : arr = #[] := by
          cases arr with
          | mk l => cases l with
            | nil => rfl
            | cons a r => simp [Rep2L] at h2
        subst h3
        have h4 := Option.some.inj h
        rw [← h4]
        simp only [yielded, hd, Option.bind_some]
        rw [Array.getD_eq_getD_getElem?] at h1
        cases hx : a.tmps[d]? with
        | none => rfl
        | some v =>
          rw [hx] at h1
          simp only [Option.getD_some] at h1
          rw [h1]
          rfl
      · cases h

theorem put_rep {T : TypeId} {I : Nat → Nat → Prop} {w : World} {ρ : Nat → Place} {t : Nat → AV} {a : Act} (ht : ∀ i, Rep T I w ρ (t i) (a.tmps.getD i undef)) {d : Nat} (hd : d < a.tmps.size) {v : AV} {x : Value} (hv : Rep T I w ρ v x) :
    ∀ i, Rep T I w ρ (match Nat.beq i d with | true => v | false => t i) ((a.put (some d) x).tmps.getD i undef) := by
  intro i
  cases hb : Nat.beq i d with
  | true =>
    have := Nat.eq_of_beq_eq_true hb
    subst this
    simp only [Act.put, Array.getD_eq_getD_getElem?, Array.getElem?_setIfInBounds_self_of_lt hd, Option.getD_some]
    exact hv
  | false =>
    have hne : d ≠ i := by rintro rfl; simp at hb
    simp only [Act.put, Array.getD_eq_getD_getElem?, Array.getElem?_setIfInBounds_ne hne]
    have := ht i
    rwa [Array.getD_eq_getD_getElem?] at this

/-- The state after an operation that is no store. -/
theorem rel_appE {σ : St} {a : Act} {w' : World} {ρ' : Nat → Place} {I' : Nat → Nat → Prop} {dst : Option Nat} {v : AV} {x : Value} {new : Option Row} {fz : Nat → Nat → Nat} {dd : Nat}
    (hdst : ∀ d, dst = some d → d < N ∧ dd = d) (hnone : dst = none → new = none)
    (M' : MRel E.errT B w0 I0 ρ' I' (effM σ.m dd new fz) w') (ht : ∀ i, Rep E.errT I' w' ρ' (σ.t i) (a.tmps.getD i undef)) (hs : a.tmps.size = N) (hdf : Rest E B I0 ρ' I' w' a) (hv : Rep E.errT I' w' ρ' v x) :
    Rel E N B w0 I0 (appE dst σ v new fz) (a.put dst x) w' := by
  cases dst with
  | none =>
    have := hnone rfl
    subst this
    refine ⟨ρ', I', ?_, ht, hs, hdf⟩
    have e : effM σ.m 0 none fz = effM σ.m dd none fz := by funext id; rw [effM_none, effM_none]
    simp only [appE, e]
    exact M'
  | some d =>
    obtain ⟨h1, rfl⟩ := hdst d rfl
    refine ⟨ρ', I', M', put_rep ht (by rw [hs]; exact h1) hv, by simp [Act.put, hs], hdf.mono Ext.refl rfl⟩

/-- A step, in the model: either the operation is passed over, or it runs. -/
theorem gstep_core (h : TabOK P E) (sp : SpecOK P E) {ops : Array Oper} {o : Oper} {σ σ' : St} {a : Act} {w : World} (hg : GStep E ops.toList o σ σ') (hr : Rel E N B w0 I0 σ a w) (hd : ∀ d, o.dst = some d → d < N) :
    (Region.wanted o (yielded ops a.tmps) = false ∧ Rel E N B w0 I0 σ' (a.put o.dst undef) w) ∨
    (Region.wanted o (yielded ops a.tmps) = true ∧ (OpWp P (execOp a.eval o) w (fun x w' => Rel E N B w0 I0 σ' (a.put o.dst x) w') ∨ ∃ w', (execOp a.eval o).run P w = .ok .skip w' ∧ Rel E N B w0 I0 σ' (a.put o.dst undef) w')) := by
  have hr0 := hr
  obtain ⟨ρ, I, M, ht, hs, hdf⟩ := hr
  have hev : ∀ x, Rep E.errT I w ρ (evO σ.t x) (a.eval x) := fun x => rep_ev (tmps := a.tmps) (ds := a.defers) ht x
  rcases hg with ⟨v, new, fz, hp, hn, rfl⟩ | ⟨hw, hdn, t, x, y, id, r, hop, hsop, rfl⟩
  · rcases hp with ⟨hw, hst, hp⟩ | ⟨hw, rfl, rfl, rfl⟩
    · right
      refine ⟨wantedA_sound hr0 hw, .inl ?_⟩
      have S := aop_sound h sp M a hev o (o.dst.getD 0)
      have hdd : ∀ d, o.dst = some d → d < N ∧ o.dst.getD 0 = d := fun d e => ⟨hd d e, by rw [e]; rfl⟩
      have hnn : o.dst = none → new = none := fun e => by
        cases new with
        | none => rfl
        | some r => obtain ⟨d, h1, _⟩ := hn rfl; rw [e] at h1; cases h1
      have simple : ∀ {v : AV} {x : Value}, (execOp a.eval o).run P w = .ok (.value x) w → Rep E.errT I w ρ v x → OpWp P (execOp a.eval o) w (fun x w' => Rel E N B w0 I0 (appE o.dst σ v none fz0) (a.put o.dst x) w') := by
        intro v x hrun hv
        unfold OpWp
        rw [hrun]
        exact rel_appE hdd (fun _ => rfl) (by rw [effM_fz0]; exact M) ht hs hdf hv
      generalize aop E o.op (o.dst.getD 0) (evO σ.t) σ.m = r at hp S
      cases r with
      | no => exact hp.elim
      | val v' =>
        obtain ⟨rfl, rfl, rfl⟩ := hp
        obtain ⟨x, h1, h2⟩ := S
        exact simple h1 h2
      | valc p v' =>
        obtain ⟨hpp, rfl, rfl, rfl⟩ := hp
        obtain ⟨x, h1, h2⟩ := S hpp
        exact simple h1 h2
      | eff p v' kb new' fz' =>
        obtain ⟨hpp, rfl, rfl, rfl⟩ := hp
        obtain ⟨S1, _⟩ := S hpp (fun hn' => by obtain ⟨d, h1, h2⟩ := hn hn'; rw [h1]; exact h2)
        unfold OpWp at S1 ⊢
        have fin : ∀ (x : Value) (w' : World), (∃ ρ' I', Ext ρ I w ρ' I' w' ∧ MRel E.errT B w0 I0 ρ' I' (effM σ.m (o.dst.getD 0) new fz) w' ∧ Rep E.errT I' w' ρ' v x) → Rel E N B w0 I0 (appE o.dst σ v new fz) (a.put o.dst x) w' := by
          rintro x w' ⟨ρ', I', X, M', hv⟩
          exact rel_appE hdd hnn M' (fun i => Rep.mono X _ _ (ht i)) hs (hdf.mono X rfl) hv
        split at S1
        · exact fin _ _ S1
        · exact S1.mono fun e w'' ⟨x, he, hx⟩ => ⟨x, he, fin _ _ hx⟩
        · exact S1.elim
    · left
      refine ⟨wantedA_sound hr0 hw, ?_⟩
      refine rel_appE (dd := o.dst.getD 0) (fun d e => ⟨hd d e, by rw [e]; rfl⟩) (fun _ => rfl) (by rw [effM_fz0]; exact M) ht hs hdf ⟨#[], rfl, trivial⟩
  · right
    refine ⟨wantedA_sound hr0 hw, .inr ?_⟩
    obtain ⟨w', h1, X, M'⟩ := sop_sound h M hsop (hev x) (hev y)
    refine ⟨w', by rw [execOp, hop]; simp [h1], ?_⟩
    rw [hdn]
    exact ⟨ρ, I, M', fun i => Rep.mono X _ _ (ht i), hs, hdf.mono X rfl⟩

theorem gstep_wp (h : TabOK P E) (sp : SpecOK P E) {ops : Array Oper} {i : Nat} {o : Oper} (hi : ops[i]? = some o) {σ σ' : St} {a : Act} {w : World} (hg : GStep E ops.toList o σ σ') (hr : Rel E N B w0 I0 σ a w) (hd : ∀ d, o.dst = some d → d < N)
    {K : Act → World → Prop} {Q : Exit → Act → World → Prop} (hK : ∀ a' w', Rel E N B w0 I0 σ' a' w' → K a' w') : wpOp P ops Q i K a w := by
  unfold wpOp
  rw [hi]
  rcases gstep_core h sp hg hr hd with ⟨hw, hr'⟩ | ⟨hw, S⟩
  · simp only [hw]; exact hK _ _ hr'
  · simp only [hw, if_true]
    left
    unfold Oper.wp
    rcases S with S | ⟨w', hrun, hr'⟩
    · unfold OpWp at S
      split at S
      · rename_i x w' hrun
        rw [hrun]; exact hK _ _ S
      · rename_i f args w' hrun
        rw [hrun]
        exact S.mono fun e w'' ⟨x, he, hx⟩ => by subst he; exact hK _ _ hx
      · exact S.elim
    · rw [hrun]; exact hK _ _ hr'

theorem gstep_inh (h : TabOK P E) (sp : SpecOK P E) {ops : Array Oper} {o : Oper} {σ σ' : St} {a : Act} {w : World} (hg : GStep E ops.toList o σ σ') (hr : Rel E N B w0 I0 σ a w) (hd : ∀ d, o.dst = some d → d < N) : ∃ a' w', Rel E N B w0 I0 σ' a' w' := by
  rcases gstep_core h sp hg hr hd with ⟨_, hr'⟩ | ⟨_, S⟩
  · exact ⟨_, _, hr'⟩
  · rcases S with S | ⟨w', _, hr'⟩
    · unfold OpWp at S
      split at S
      · exact ⟨_, _, S⟩
      · obtain ⟨e, w'', fr, ⟨x, _, hx⟩, _⟩ := S []
        exact ⟨_, _, hx⟩
      · exact S.elim
    · exact ⟨_, _, hr'⟩
end Go.Proofs.Ytbhbjmneglkgnaa.AI
