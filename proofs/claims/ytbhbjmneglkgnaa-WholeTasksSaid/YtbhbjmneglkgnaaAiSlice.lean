/- A slice of a slice, of an array in memory; a call by its contract. Conditions: none. -/
import Derived.Test.YtbhbjmneglkgnaaAiStore
namespace Go.Proofs.Ytbhbjmneglkgnaa.AI
open Go Go.RowKit

variable {P : Program} {E : Env} {T : TypeId} {B : Nat} {w0 : World} {I0 : Nat → Nat → Prop} {ρ ρ' : Nat → Place} {I I' : Nat → Nat → Prop} {m : Nat → Option Row} {w w' : World}

/-- A cut of a slice in memory. -/
theorem cut_rep {ts n cap l h : Nat} {a : Option Addr} {f : Nat → Nat → AV} (hn : n ≤ cap) (hcap : cap ≤ maxLen) (hl : l ≤ h) (hh : h ≤ n)
    (hc : 0 < n → ∃ b o, a = some ⟨b, o, none⟩ ∧ ∀ i j, i < n → j < ts → I b (o + (i * ts + j)) ∧ ∃ c, w.cell? ⟨b, o + (i * ts + j), none⟩ = some c ∧ c.oneCell' = true ∧ Rep1 T I w noPl (f i j) c) :
    Rep T I w ρ (.sl ts (h - l) (fun i j => f (l + i) j)) (.slice (if cap = l then a else a.map (·.add (l * ts))) (h - l) (cap - l)) := by
  simp only [Rep, Rep2, Rep1]
  refine ⟨_, _, rfl, by omega, by omega, fun hp => ?_⟩
  obtain ⟨b, o, rfl, hz⟩ := hc (by omega)
  rw [if_neg (by omega)]
  refine ⟨b, o + l * ts, by simp [add_at], fun i j hi hj => ?_⟩
  have := hz (l + i) j (by omega) hj
  rw [Nat.add_mul] at this
  simpa [Nat.add_assoc] using this

theorem run_cut {t e : TypeId} {te : TD} {ie : TypeInfo} {ze : Value} (hu : P.underlying t = some (.slice e)) (ge : TdGives P e te ie ze) (a : Option Addr) (n cap : Nat) (hn : n ≤ cap) :
    ((Instr.sliceAt t (.slice a n cap) none none none).run P w = .ok (.slice (if cap = 0 then a else a.map (·.add (0 * te.size))) (n - 0) (cap - 0)) w) ∧
    (∀ k (l : Int), 0 ≤ l → l ≤ n → (Instr.sliceAt t (.slice a n cap) (some (.int k l)) none none).run P w = .ok (.slice (if cap = l.toNat then a else a.map (·.add (l.toNat * te.size))) (n - l.toNat) (cap - l.toNat)) w) ∧
    (∀ k (h : Int), 0 ≤ h → h ≤ n → (Instr.sliceAt t (.slice a n cap) none (some (.int k h)) none).run P w = .ok (.slice (if cap = 0 then a else a.map (·.add (0 * te.size))) (h.toNat - 0) (cap - 0)) w) ∧
    (∀ k (l : Int) k' (h : Int), 0 ≤ l → l ≤ h → h ≤ n → (Instr.sliceAt t (.slice a n cap) (some (.int k l)) (some (.int k' h)) none).run P w = .ok (.slice (if cap = l.toNat then a else a.map (·.add (l.toNat * te.size))) (h.toNat - l.toNat) (cap - l.toNat)) w) := by
  refine ⟨?_, fun k l h0 h1 => ?_, fun k h h0 h1 => ?_, fun k l k' h h0 h1 h2 => ?_⟩
  · simp [Instr.sliceAt, Instr.slice, run_underlying hu, Instr.sliceBounds, ge.run_sizeOf]
  · simp [Instr.sliceAt, Instr.slice, run_underlying hu, Instr.sliceBounds, Instr.sliceBound, asIntOf, ge.run_sizeOf, h0, h1]
  · have h2 : h ≤ cap := by omega
    simp [Instr.sliceAt, Instr.slice, run_underlying hu, Instr.sliceBounds, Instr.sliceBound, asIntOf, ge.run_sizeOf, h0, h2]
  · have h3 : h ≤ cap := by omega
    have h4 : 0 ≤ h := by omega
    simp [Instr.sliceAt, Instr.slice, run_underlying hu, Instr.sliceBounds, Instr.sliceBound, asIntOf, ge.run_sizeOf, h0, h3, h4]
    intro hh
    omega

/-- What a cut comes to. -/
theorem sliceOf_sound {t e : TypeId} {te : TD} {ie : TypeInfo} {ze : Value} (hu : P.underlying t = some (.slice e)) (ge : TdGives P e te ie ze) {n cap : Nat} {a : Option Addr} {f : Nat → Nat → AV}
    (hn : n ≤ cap) (hcap : cap ≤ maxLen)
    (hc : 0 < n → ∃ b o, a = some ⟨b, o, none⟩ ∧ ∀ i j, i < n → j < te.size → I b (o + (i * te.size + j)) ∧ ∃ c, w.cell? ⟨b, o + (i * te.size + j), none⟩ = some c ∧ c.oneCell' = true ∧ Rep1 T I w noPl (f i j) c)
    (lo hi : Option AV) (lov hiv : Option Value) (hlo : ∀ x, lo = some x → ∃ v, lov = some v ∧ Rep T I' w' ρ' x v) (hlon : lo = none → lov = none) (hhi : ∀ x, hi = some x → ∃ v, hiv = some v ∧ Rep T I' w' ρ' x v) (hhin : hi = none → hiv = none)
    (K : Option Prop → AV → R0) : (sliceOf lo hi n te.size f K = .no) ∨
    ∃ p v, sliceOf lo hi n te.size f K = K p v ∧ ((∀ q, p = some q → q) → ∃ x, (Instr.sliceAt t (.slice a n cap) lov hiv none).run P w = .ok x w ∧ Rep T I w ρ v x) := by
  obtain ⟨r0, r1, r2, r3⟩ := run_cut (w := w) hu ge a n cap hn
  unfold sliceOf
  split
  · rw [hlon rfl, hhin rfl]
    refine .inr ⟨_, _, rfl, fun _ => ⟨_, r0, ?_⟩⟩
    have := cut_rep (ρ := ρ) (l := 0) (h := n) hn hcap (Nat.zero_le _) (Nat.le_refl _) hc
    simpa using this
  · rename_i k l
    obtain ⟨v, rfl, hv⟩ := hlo _ rfl
    rw [rep_int] at hv; subst hv
    rw [hhin rfl]
    refine .inr ⟨_, _, rfl, fun hp => ?_⟩
    obtain ⟨h0, h1⟩ := hp _ rfl
    exact ⟨_, r1 k l h0 h1, cut_rep hn hcap (by omega) (Nat.le_refl _) hc⟩
  · rename_i k h
    obtain ⟨v, rfl, hv⟩ := hhi _ rfl
    rw [rep_int] at hv; subst hv
    rw [hlon rfl]
    refine .inr ⟨_, _, rfl, fun hp => ?_⟩
    obtain ⟨h0, h1⟩ := hp _ rfl
    refine ⟨_, r2 k h h0 h1, ?_⟩
    have := cut_rep (ρ := ρ) (l := 0) (h := h.toNat) hn hcap (Nat.zero_le _) (by omega) hc
    simpa using this
  · rename_i k l k' h
    obtain ⟨v, rfl, hv⟩ := hlo _ rfl
    obtain ⟨v', rfl, hv'⟩ := hhi _ rfl
    rw [rep_int] at hv hv'; subst hv; subst hv'
    refine .inr ⟨_, _, rfl, fun hp => ?_⟩
    obtain ⟨h0, h1, h2⟩ := hp _ rfl
    exact ⟨_, r3 k l k' h h0 h1 h2, cut_rep hn hcap (by omega) (by omega) hc⟩
  · exact .inl rfl

/-- What an operation with an effect comes to. -/
def EffOK (P : Program) (s : Sem Value) (T : TypeId) (B : Nat) (w0 : World) (I0 : Nat → Nat → Prop) (ρ : Nat → Place) (I : Nat → Nat → Prop) (w : World) (m : Nat → Option Row) (d : Nat) : R0 → Prop
  | .no => True
  | .val v => ∃ x, s.run P w = .ok x w ∧ Rep T I w ρ v x
  | .valc p v => p → ∃ x, s.run P w = .ok x w ∧ Rep T I w ρ v x
  | .eff p v kb new fz => (∀ q, p = some q → q) → (new.isSome = true → m d = none) → SemEff P s T B w0 I0 ρ I w (effM m d new fz) v ∧ ∀ b, kb = some b → v = .bit b

theorem EffOK.of_val {s : Sem Value} {d : Nat} {r : R0} (h : ValOK T I w ρ P s r) (hr : ∀ p v k n f, r ≠ .eff p v k n f) : EffOK P s T B w0 I0 ρ I w m d r := by
  cases r <;> first
    | exact h
    | exact absurd rfl (hr _ _ _ _ _)

theorem aslice_sound (h : TabOK P E) (M : MRel E.errT B w0 I0 ρ I m w) (d : Nat) (t : TypeId) (x : AV) (xv : Value) (lo hi : Option AV) (lov hiv : Option Value) (hx : Rep E.errT I w ρ x xv)
    (hlo : ∀ x, lo = some x → ∃ v, lov = some v ∧ Rep E.errT I w ρ x v) (hlon : lo = none → lov = none) (hhi : ∀ x, hi = some x → ∃ v, hiv = some v ∧ Rep E.errT I w ρ x v) (hhin : hi = none → hiv = none) :
    EffOK P (Instr.sliceAt t xv lov hiv none) E.errT B w0 I0 ρ I w m d (aslice E t x lo hi (rowOf m x)) := by
  unfold aslice
  split
  · rename_i e _ _ _ ht
    have hu := tab_slice h ht
    split
    · rename_i desc ts tb z he
      obtain ⟨ie, ze, ge⟩ := h.gives he
      split
      · rename_i sz n f
        split
        · rename_i hs
          have hs' : sz = ts := Nat.eq_of_beq_eq_true hs
          subst hs'
          simp only [Rep, Rep2, Rep1] at hx
          obtain ⟨a, cap, rfl, hn, hcap, hc⟩ := hx
          rcases sliceOf_sound (P := P) (T := E.errT) (ρ := ρ) hu ge hn hcap hc lo hi lov hiv hlo hlon hhi hhin (fun p v => .eff p v none none fz0) with e | ⟨p, v, e, hk⟩
          · rw [e]; trivial
          · rw [e]
            intro hp _
            obtain ⟨y, hy, hr⟩ := hk hp
            exact ⟨⟨y, w, ρ, I, hy, Ext.refl, by rw [effM_fz0]; exact M, hr⟩, fun b hb => by cases hb⟩
        · trivial
      · rename_i id n f
        split
        · rename_i k l
          split
          · rename_i hs
            have hs' : 1 = ts := Nat.eq_of_beq_eq_true hs
            subst hs'
            intro hp _
            obtain ⟨h0, h1⟩ := hp _ rfl
            obtain ⟨v, rfl, hv⟩ := hlo _ rfl
            rw [rep_int] at hv; subst hv
            rw [hhin rfl]
            simp only [Rep, Rep2, Rep1] at hx
            rcases hx with ⟨g, cap, e', hpl, n1, n2, n3, x, rfl, hxe, hz⟩ | ⟨sz, hpl, rfl, rfl⟩
            · have r1 := (run_cut (w := w) hu ge (some ⟨g, x, none⟩) n (cap + n - e') (by omega)).2.1 k l h0 h1
              refine ⟨⟨_, w, ρ, I, r1, Ext.refl, by rw [effM_fz0]; exact M, ?_⟩, fun b hb => by cases hb⟩
              simp only [Rep, Rep2, Rep1]
              refine .inl ⟨g, cap, e', hpl, by omega, n2, n3, ?_⟩
              by_cases hq : cap + n - e' = l.toNat
              · rw [if_pos hq]
                refine ⟨x, ?_, fun h => by omega, fun i hi => by omega⟩
                congr 1; omega
              · rw [if_neg hq]
                have hx0 := hxe (by omega)
                refine ⟨x + l.toNat * 1, ?_, fun h => by omega, fun i hi => ?_⟩
                · simp only [Option.map_some, add_at]
                  congr 1; omega
                · have := hz (l.toNat + i) (by omega)
                  rw [show e' - (n - l.toNat) + i = e' - n + (l.toNat + i) by omega]
                  exact this
            · have r1 := (run_cut (w := w) hu ge none 0 0 (Nat.le_refl _)).2.1 k l h0 h1
              refine ⟨⟨_, w, ρ, I, r1, Ext.refl, by rw [effM_fz0]; exact M, ?_⟩, fun b hb => by cases hb⟩
              simp only [Rep, Rep2, Rep1]
              refine .inr ⟨sz, hpl, by omega, ?_⟩
              simp
          · trivial
        · trivial
      · rename_i id n
        split
        · rename_i re sz rn f st hm
          have hm : m id = some ⟨re, sz, rn, f, st, false⟩ := hm
          split
          · rename_i hs
            have hs' : sz = ts := Nat.eq_of_beq_eq_true hs
            subst hs'
            have M' := M.frz d (fun i => Nat.beq i id)
            simp only [Rep, Rep2, Rep1] at hx
            have hXf : Ext ρ I w ρ (frzI ρ (fun i => Nat.beq i id) I) w := Ext.frz _
            have fin : ∀ {a : Option Addr} {cap : Nat}, xv = .slice a n cap → n ≤ cap → cap ≤ maxLen →
                (0 < n → ∃ b o, a = some ⟨b, o, none⟩ ∧ ∀ i j, i < n → j < sz → frzI ρ (fun i => Nat.beq i id) I b (o + (i * sz + j)) ∧ ∃ c, w.cell? ⟨b, o + (i * sz + j), none⟩ = some c ∧ c.oneCell' = true ∧ Rep1 E.errT (frzI ρ (fun i => Nat.beq i id) I) w noPl (f i j) c) →
                EffOK P (Instr.sliceAt t xv lov hiv none) E.errT B w0 I0 ρ I w m d (sliceOf lo hi n sz f (fun p v => .eff p v none none (fzId id))) := by
              intro a cap hxv hn hcap hc
              subst hxv
              rcases sliceOf_sound (P := P) (T := E.errT) (I := frzI ρ (fun i => Nat.beq i id) I) (ρ := ρ) hu ge hn hcap hc lo hi lov hiv hlo hlon hhi hhin (fun p v => .eff p v none none (fzId id)) with e | ⟨p, v, e, hk⟩
              · rw [e]; trivial
              · rw [e]
                intro hp _
                obtain ⟨y, hy, hr⟩ := hk hp
                exact ⟨⟨y, w, ρ, _, hy, hXf, M', hr⟩, fun b hb => by cases hb⟩
            rcases hx with ⟨g, cap, sz', hp, hxv⟩ | ⟨sz', hp, rfl, hxv⟩
            · obtain ⟨q1, q2, q3, q4⟩ := M.sz hp hm
              simp only at q1
              subst q1
              refine fin hxv q3 q4 fun hn0 => ⟨g, 0, rfl, fun i j hi' hj' => ⟨.inr ⟨id, cap, sz', n, hp, by simp, by rw [Nat.zero_add]; exact row_index hi' hj'⟩, ?_⟩⟩
              obtain ⟨c, c1, c2, c3⟩ := M.cellAt hp hm hi' hj'
              exact ⟨c, by rw [Nat.zero_add]; exact c1, c2, Rep1.mono hXf.none_ _ _ c3⟩
            · exact fin hxv (Nat.le_refl _) (Nat.zero_le _) (fun h => absurd h (by omega))
          · trivial
        · trivial
      · trivial
    · trivial
  · rename_i n e _ _ _ ht
    have hu := tab_array h ht
    split
    · rename_i desc ts tb z id j he
      obtain ⟨ie, ze, ge⟩ := h.gives he
      split
      · rename_i re sz k f st bx hm
        have hm : m id = some ⟨re, sz, k, f, st, bx⟩ := hm
        split
        · rename_i c1 c2
          have c1' : 0 < k := by simpa using c1
          simp only [Bool.and_eq_true] at c2
          have c2' : j + n * ts ≤ sz := by simpa using c2.1
          have c3' : n ≤ 4294967296 := Nat.le_of_ble_eq_true c2.2
          intro _ _
          have M' := M.frz d (fun i => Nat.beq i id)
          have hXf : Ext ρ I w ρ (frzI ρ (fun i => Nat.beq i id) I) w := Ext.frz _
          simp only [Rep, Rep2, Rep1] at hx
          obtain ⟨g, cap, sz', n', hp, rfl⟩ := hx
          obtain ⟨q1, q2, q3, q4⟩ := M.sz hp hm
          simp only at q1 q2
          subst q1; subst q2
          rw [hlon rfl, hhin rfl]
          have hrun : (Instr.sliceAt t (.pointer (some ⟨g, j, none⟩)) none none none).run P w = .ok (.slice (some (if n = 0 then ⟨g, j, none⟩ else (⟨g, j, none⟩ : Addr).add (0 * ts))) (n - 0) (n - 0)) w := by
            simp [Instr.sliceAt, run_underlying hu, Instr.sureAddr, Instr.sliceBounds, ge.run_sizeOf]
          refine ⟨⟨_, w, ρ, _, hrun, hXf, M', ?_⟩, fun b hb => by cases hb⟩
          by_cases hn : n = 0
          · subst hn
            simp only [Rep, Rep2, Rep1]
            exact ⟨_, _, rfl, Nat.le_refl _, Nat.zero_le _, fun h => absurd h (by omega)⟩
          · simp only [Rep, Rep2, Rep1, Nat.zero_mul, add_at, Nat.add_zero, Nat.sub_zero, if_neg hn]
            have hcell : ∀ a b, a < n → b < ts → ∃ c, w.cell? ⟨g, j + (a * ts + b), none⟩ = some c ∧ c.oneCell' = true ∧ Rep1 E.errT I w (plOf bx ρ) (f 0 (j + (a * ts + b))) c := fun a b ha hb => by
              have hri := row_index ha hb
              obtain ⟨c, d1, d2, d3⟩ := M.cellAt hp hm c1' (show j + (a * ts + b) < sz' by omega)
              rw [Nat.zero_mul, Nat.zero_add] at d1
              exact ⟨c, d1, d2, d3⟩
            refine ⟨_, _, rfl, Nat.le_refl _, by unfold maxLen; omega, fun _ => ⟨g, j, rfl, fun a b ha hb => ?_⟩⟩
            have hri := row_index ha hb
            have hri0 := row_index c1' (show j + (a * ts + b) < sz' by omega)
            rw [Nat.zero_mul, Nat.zero_add] at hri0
            obtain ⟨c, d1, d2, d3⟩ := hcell a b ha hb
            exact ⟨.inr ⟨id, cap, sz', n', hp, by simp, hri0⟩, c, d1, d2, Rep1.mono (noPl_mono fun _ _ h => .inl h) _ _ (plOf_pureC d3)⟩
        · trivial
      · trivial
    · trivial
  · trivial
end Go.Proofs.Ytbhbjmneglkgnaa.AI
