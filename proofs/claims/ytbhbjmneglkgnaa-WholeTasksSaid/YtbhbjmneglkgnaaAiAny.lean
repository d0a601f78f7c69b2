/- A region that draws its order: the lexical order speaks for all. Conditions: none. -/
import Derived.Test.YtbhbjmneglkgnaaAiRegion
namespace Go.Proofs.Ytbhbjmneglkgnaa.AI
open Go Go.RowKit

variable {P : Program} {E : Env} {N B : Nat} {w0 : World} {I0 : Nat → Nat → Prop}

theorem fz_le {fz : Nat → Nat → Nat} {id s : Nat} (h : FzKind fz id) (hb : Nat.ble (fz id s) 1 = true) : Nat.ble s 1 = true := by
  rcases h with h | h | h
  · rw [h] at hb; exact hb
  · rw [h] at hb
    by_cases e : s = 0
    · subst e; rfl
    · rwa [if_neg e] at hb
  · rw [h] at hb; exact absurd hb (by decide)

theorem fz_comm {f g : Nat → Nat → Nat} {id : Nat} (hf : FzKind f id) (hg : FzKind g id) (s : Nat) : f id (g id s) = g id (f id s) := by
  rcases hf with hf | hf | hf <;> rcases hg with hg | hg | hg <;> simp only [hf, hg]
  · rfl
  · simp

theorem looks_operand {ops : Array Oper} {o : Oper} {t : Nat} (h : Operand.tmp t ∈ o.op.operands) : t ∈ o.looksAt ops := by
  unfold Oper.looksAt
  refine List.mem_append_left _ (List.mem_filterMap.2 ⟨.tmp t, by simpa using h, rfl⟩)

theorem evO_put {ops : Array Oper} {o : Oper} {dst : Option Nat} {σ : St} {v : AV} {new : Option Row} {fz : Nat → Nat → Nat} (hap : ∀ d, dst = some d → d ∉ o.looksAt ops) (x : Operand) (hx : x ∈ o.op.operands) :
    evO (appE dst σ v new fz).t x = evO σ.t x := by
  cases x with
  | tmp t =>
    cases dst with
    | none => rfl
    | some d =>
      have hne : Nat.beq t d = false := by
        cases hb : Nat.beq t d with
        | false => rfl
        | true =>
          have := Nat.eq_of_beq_eq_true hb
          subst this
          exact absurd (looks_operand hx) (hap _ rfl)
      simp only [evO, appE, St.eff, hne]
  | _ => rfl

theorem wantedA_put {ops : Array Oper} {o : Oper} {dst : Option Nat} {σ : St} {v : AV} {new : Option Row} {fz : Nat → Nat → Nat} (hap : ∀ d, dst = some d → d ∉ o.looksAt ops) :
    wantedA ops.toList o (appE dst σ v new fz).t = wantedA ops.toList o σ.t := by
  unfold wantedA
  cases hg : o.guard with
  | none => rfl
  | some jw =>
    obtain ⟨j, want⟩ := jw
    simp only []
    cases hd : gdst ops.toList j with
    | none => rfl
    | some d' =>
      cases dst with
      | none => rfl
      | some d =>
        have hne : Nat.beq d' d = false := by
          cases hb : Nat.beq d' d with
          | false => rfl
          | true =>
            have := Nat.eq_of_beq_eq_true hb
            subst this
            refine absurd ?_ (hap _ rfl)
            unfold Oper.looksAt
            refine List.mem_append_right _ ?_
            rw [gdst_eq, Array.getElem?_toList] at hd
            simp [hg, hd]
        simp only [appE, St.eff, hne]

theorem appE_m (dst : Option Nat) (σ : St) (v : AV) (new : Option Row) (fz : Nat → Nat → Nat) (id : Nat) :
    (appE dst σ v new fz).m id = (match dst with | some d => effM σ.m d new fz id | none => (σ.m id).map fun r => { r with st := fz id r.st }) := by
  cases dst with
  | some d => rfl
  | none => simp only [appE]; rw [effM_none]

/-- A row that was there, behind an operation. -/
theorem appE_old {dst : Option Nat} {σ : St} {v : AV} {new : Option Row} {fz : Nat → Nat → Nat} {id : Nat} (hn : new.isSome = true → ∃ d, dst = some d ∧ σ.m d = none) (hid : σ.m id ≠ none) :
    (appE dst σ v new fz).m id = (σ.m id).map fun r => { r with st := fz id r.st } := by
  rw [appE_m]
  cases dst with
  | none => rfl
  | some d =>
    by_cases e : id = d
    · subst e
      cases new with
      | none => simp only [effM_none]
      | some r => obtain ⟨d', h1, h2⟩ := hn rfl; injection h1 with h1; subst h1; exact absurd h2 hid
    · simp only [effM_other _ _ _ _ e]

/-- The very heart: the second of two operations could as well come first, and the first behind it. -/
theorem gstep_comm {ops : Array Oper} {oi oj : Oper} {σ σi σij : St} {a : Act} {w : World} (hr : Rel E N B w0 I0 σ a w) (hap : oi.apart ops oj = true) (hi : GStep0 E ops.toList oi σ σi) (hj : GStep0 E ops.toList oj σi σij) :
    ∃ σj, GStep0 E ops.toList oj σ σj ∧ GStep0 E ops.toList oi σj σij := by
  obtain ⟨ap1, ap2, ap3⟩ := Oper.apart_spec hap
  obtain ⟨vi, ni, fi, pi, hni, rfl⟩ := hi
  obtain ⟨vj, nj, fj, pj, hnj, rfl⟩ := hj
  -- the kinds of the two effects
  have kindOf : ∀ {o : Oper} {τ : St} {v : AV} {new : Option Row} {fz : Nat → Nat → Nat}, GProd E ops.toList o τ v new fz → (∀ id, FzKind fz id) ∧ (∀ id, (∀ x ∈ o.op.operands, hasId id (evO τ.t x) = false) → ∀ s, fz id s = s) := by
    intro o τ v new fz h
    rcases h with ⟨_, _, h⟩ | ⟨_, _, _, rfl⟩
    · have := prod_fz h
      exact ⟨this.kind, this.quiet⟩
    · exact ⟨fun id => .inl fun _ => rfl, fun _ _ _ => rfl⟩
  obtain ⟨ki, qi⟩ := kindOf pi
  obtain ⟨kj, qj⟩ := kindOf pj
  have evj : ∀ x ∈ oj.op.operands, evO (appE oi.dst σ vi ni fi).t x = evO σ.t x := fun x hx => evO_put (ops := ops) ap1 x hx
  -- the second, at the state ahead of the first
  have pj' : GProd E ops.toList oj σ vj nj fj := by
    rcases pj with ⟨h1, h2, h3⟩ | ⟨h1, h2⟩
    · left
      refine ⟨by rw [← h1]; exact (wantedA_put (ops := ops) ap1).symm, h2, ?_⟩
      have fzj := prod_fz h3
      have e1 := aop_ev (E := E) (m := (appE oi.dst σ vi ni fi).m) (d := oj.dst.getD 0) evj
      have e2 : aop E oj.op (oj.dst.getD 0) (evO σ.t) σ.m = aop E oj.op (oj.dst.getD 0) (evO σ.t) (appE oi.dst σ vi ni fi).m := by
        refine aop_core (fun x hx id hid => ?_) (fun id hid r r' hm hm' => ?_)
        · have hne := hr.dom x hid
          have := appE_old (v := vi) (fz := fi) hni hne
          cases hm : σ.m id with
          | none => exact absurd hm hne
          | some r =>
            obtain ⟨e, sz, n, f, s, bx⟩ := r
            right
            refine ⟨e, sz, n, f, s, fi id s, bx, hm, ?_⟩
            rw [this, hm]; rfl
        · rw [← e1.2] at hid
          obtain ⟨_, q, hq, hqb⟩ := fzj.app id hid
          have hne : σ.m id ≠ none := by rw [hm]; simp
          have h4 := appE_old (v := vi) (fz := fi) hni hne
          rw [hq, hm] at h4
          rw [hq] at hm'
          injection h4 with h4
          injection hm' with hm'
          have : r'.st = fi id r.st := by rw [← hm', h4]
          have hb : Nat.ble r'.st 1 = true := by rw [← hm']; exact hqb
          rw [hb]
          exact fz_le (ki id) (by rw [← this]; exact hb)
      rw [e2, ← e1.1]
      exact h3
    · right
      exact ⟨by rw [← h1]; exact (wantedA_put (ops := ops) ap1).symm, h2⟩
  have hnj' : nj.isSome = true → ∃ d, oj.dst = some d ∧ σ.m d = none := fun h => by
    obtain ⟨d, h1, h2⟩ := hnj h
    refine ⟨d, h1, ?_⟩
    cases hm : σ.m d with
    | none => rfl
    | some r =>
      have := appE_old (v := vi) (fz := fi) (id := d) hni (by rw [hm]; simp)
      rw [h2, hm] at this
      cases this
  refine ⟨appE oj.dst σ vj nj fj, ⟨vj, nj, fj, pj', hnj', rfl⟩, vi, ni, fi, ?_, fun h => ?_, ?_⟩
  · -- the first, behind the second
    have evi : ∀ x ∈ oi.op.operands, evO (appE oj.dst σ vj nj fj).t x = evO σ.t x := fun x hx => evO_put (ops := ops) ap3 x hx
    rcases pi with ⟨h1, h2, h3⟩ | ⟨h1, h2⟩
    · left
      refine ⟨by rw [← h1]; exact wantedA_put (ops := ops) ap3, h2, ?_⟩
      have fzi := prod_fz h3
      have e1 := aop_ev (E := E) (m := (appE oj.dst σ vj nj fj).m) (d := oi.dst.getD 0) evi
      have e2 : aop E oi.op (oi.dst.getD 0) (evO σ.t) σ.m = aop E oi.op (oi.dst.getD 0) (evO σ.t) (appE oj.dst σ vj nj fj).m := by
        refine aop_core (fun x hx id hid => ?_) (fun id hid r r' hm hm' => ?_)
        · have hne := hr.dom x hid
          have := appE_old (v := vj) (fz := fj) hnj' hne
          cases hm : σ.m id with
          | none => exact absurd hm hne
          | some r =>
            obtain ⟨e, sz, n, f, s, bx⟩ := r
            right
            refine ⟨e, sz, n, f, s, fj id s, bx, hm, ?_⟩
            rw [this, hm]; rfl
        · obtain ⟨hfi, q, hq, hqb⟩ := fzi.app id hid
          have hne : σ.m id ≠ none := by rw [hm]; simp
          have h4 := appE_old (v := vj) (fz := fj) hnj' hne
          rw [hm', hm] at h4
          injection h4 with h4
          have h5 : r'.st = fj id r.st := by rw [h4]
          rw [hq] at hm
          injection hm with hm
          subst hm
          rw [h5, hqb]
          -- the second's effect on that row
          rcases pj with ⟨g1, g2, g3⟩ | ⟨_, _, _, g4⟩
          · have fzj := prod_fz g3
            cases hap' : apT oj.op (evO (appE oi.dst σ vi ni fi).t) with
            | none => rw [fzj.plain hap']; exact hqb.symm
            | some id' =>
              obtain ⟨hfj, q', hq', hqb'⟩ := fzj.app id' hap'
              by_cases e : id' = id
              · subst e
                exfalso
                have h6 := appE_old (v := vi) (fz := fi) hni hne
                rw [hq', hq] at h6
                injection h6 with h6
                have h7 : q'.st = fi id' q.st := by rw [h6]
                rw [h7, hfi] at hqb'
                simp [fzApp] at hqb'
              · have : Nat.beq id id' = false := by
                  cases hb : Nat.beq id id' with
                  | false => rfl
                  | true => exact absurd (Nat.eq_of_beq_eq_true hb).symm e
                rw [hfj]
                simp only [fzApp, this]
                exact hqb.symm
          · rw [g4]; exact hqb.symm
      rw [e1.1, ← e2]
      exact h3
    · right
      exact ⟨by rw [← h1]; exact wantedA_put (ops := ops) ap3, h2⟩
  · obtain ⟨d, h1, h2⟩ := hni h
    refine ⟨d, h1, ?_⟩
    rw [appE_m]
    cases hdj : oj.dst with
    | none => simp [h2]
    | some d' =>
      have : d ≠ d' := fun e => ap2 d h1 (by rw [hdj, e])
      simp only [effM_other _ _ _ _ this, h2, Option.map_none]
  · -- the two states are one
    have ht : ∀ i, (appE oj.dst (appE oi.dst σ vi ni fi) vj nj fj).t i = (appE oi.dst (appE oj.dst σ vj nj fj) vi ni fi).t i := fun i => by
      cases hdi : oi.dst with
      | none => cases hdj : oj.dst <;> rfl
      | some d =>
        cases hdj : oj.dst with
        | none => rfl
        | some d' =>
          have hne : d ≠ d' := fun e => ap2 d hdi (by rw [hdj, e])
          simp only [appE, St.eff]
          cases h1 : Nat.beq i d' <;> cases h2 : Nat.beq i d <;> simp only []
          exact absurd ((Nat.eq_of_beq_eq_true h2).symm.trans (Nat.eq_of_beq_eq_true h1)) hne
    have hm : ∀ id, (appE oj.dst (appE oi.dst σ vi ni fi) vj nj fj).m id = (appE oi.dst (appE oj.dst σ vj nj fj) vi ni fi).m id := fun id => by
      -- a row that an operation makes is named by no value that is there
      have quietj : ∀ d, σ.m d = none → ∀ s, fj d s = s := fun d hd s => qj d (fun x hx => by
        cases hb : hasId d (evO (appE oi.dst σ vi ni fi).t x) with
        | false => rfl
        | true => rw [evj x hx] at hb; exact absurd hd (hr.dom x hb)) s
      have quieti : ∀ d, σ.m d = none → ∀ s, fi d s = s := fun d hd s => qi d (fun x hx => by
        cases hb : hasId d (evO σ.t x) with
        | false => rfl
        | true => exact absurd hd (hr.dom x hb)) s
      cases hmid : σ.m id with
      | some r =>
        have e1 := appE_old (v := vi) (fz := fi) (id := id) hni (by rw [hmid]; simp)
        have e2 := appE_old (v := vj) (fz := fj) (id := id) hnj' (by rw [hmid]; simp)
        have e3 := appE_old (dst := oj.dst) (σ := appE oi.dst σ vi ni fi) (v := vj) (fz := fj) (id := id) hnj (by rw [e1, hmid]; simp)
        have hni' : ni.isSome = true → ∃ d, oi.dst = some d ∧ (appE oj.dst σ vj nj fj).m d = none := fun h => by
          obtain ⟨d, h1, h2⟩ := hni h
          refine ⟨d, h1, ?_⟩
          rw [appE_m]
          cases hdj : oj.dst with
          | none => simp [h2]
          | some d' =>
            have : d ≠ d' := fun e => ap2 d h1 (by rw [hdj, e])
            simp only [effM_other _ _ _ _ this, h2, Option.map_none]
        have e4 := appE_old (dst := oi.dst) (σ := appE oj.dst σ vj nj fj) (v := vi) (fz := fi) (id := id) hni' (by rw [e2, hmid]; simp)
        rw [e3, e4, e1, e2, hmid]
        simp only [Option.map_some]
        rw [fz_comm (kj id) (ki id)]
      | none =>
        cases hdi : oi.dst with
        | none =>
          have hnin : ni = none := by
            cases ni with
            | none => rfl
            | some r => obtain ⟨d, h1, _⟩ := hni rfl; rw [hdi] at h1; cases h1
          cases hdj : oj.dst with
          | none => simp [appE, effM_none, hmid]
          | some d' =>
            by_cases e' : id = d'
            · subst e'
              cases nj with
              | none => simp [appE, St.eff, effM_none, hmid]
              | some r => simp [appE, St.eff, effM_none, effM_self, quieti id hmid]
            · simp [appE, St.eff, effM_other _ _ _ _ e', effM_none, hmid]
        | some d =>
          cases hdj : oj.dst with
          | none =>
            have hnjn : nj = none := by
              cases nj with
              | none => rfl
              | some r => obtain ⟨d', h1, _⟩ := hnj rfl; rw [hdj] at h1; cases h1
            by_cases e : id = d
            · subst e
              cases ni with
              | none => simp [appE, St.eff, effM_none, hmid]
              | some r => simp [appE, St.eff, effM_none, effM_self, quietj id hmid]
            · simp [appE, St.eff, effM_other _ _ _ _ e, effM_none, hmid]
          | some d' =>
            have hne : d ≠ d' := fun e => ap2 d hdi (by rw [hdj, e])
            simp only [appE, St.eff]
            by_cases e : id = d
            · subst e
              rw [effM_other _ d' nj fj hne]
              cases ni with
              | none => rw [effM_none, effM_none, effM_other _ d' nj fj hne, hmid]; rfl
              | some r =>
                rw [effM_self, effM_self]
                simp only [Option.map_some, quietj id hmid]
            · rw [effM_other _ d ni fi e]
              by_cases e' : id = d'
              · subst e'
                cases nj with
                | none => rw [effM_none, effM_none, effM_other _ d ni fi e, hmid]; rfl
                | some r =>
                  rw [effM_self, effM_self]
                  simp only [Option.map_some, quieti id hmid]
              · rw [effM_other _ d' nj fj e', effM_other _ d' nj fj e', effM_other _ d ni fi e, hmid]
                rfl
    show appE oj.dst (appE oi.dst σ vi ni fi) vj nj fj = appE oi.dst (appE oj.dst σ vj nj fj) vi ni fi
    generalize appE oj.dst (appE oi.dst σ vi ni fi) vj nj fj = A at ht hm
    generalize appE oi.dst (appE oj.dst σ vj nj fj) vi ni fi = B' at ht hm
    cases A; cases B'
    simp only [St.mk.injEq]
    exact ⟨funext ht, funext hm⟩
end Go.Proofs.Ytbhbjmneglkgnaa.AI
