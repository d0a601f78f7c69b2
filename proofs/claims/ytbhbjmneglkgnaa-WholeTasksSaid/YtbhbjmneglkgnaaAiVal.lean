/- Loads, addresses, fields, indexes, aggregates: the evaluator's are the model's. Conditions: none. -/
import Derived.Test.YtbhbjmneglkgnaaAiPure
namespace Go.Proofs.Ytbhbjmneglkgnaa.AI
open Go Go.RowKit

variable {P : Program} {E : Env} {T : TypeId} {B : Nat} {w0 : World} {I0 : Nat → Nat → Prop} {ρ ρ' : Nat → Place} {I I' : Nat → Nat → Prop} {m : Nat → Option Row} {w w' : World}

theorem add_at (b o k : Nat) : (⟨b, o, none⟩ : Addr).add k = ⟨b, o + k, none⟩ := by
  unfold Addr.add; split <;> simp_all

theorem repL_range {F : Nat → AV} {j n : Nat} {f : Nat → Value} (h : ∀ k, k < n → (f k).oneCell' = true ∧ Rep1 T I w ρ (F (j + k)) (f k)) : RepL T I w ρ (takeF F j n) ((List.range n).map f) := by
  refine repL_of _ _ (by simp [takeF_length]) fun i hi => ?_
  rw [takeF_length] at hi
  rw [nth_takeF F n j i hi]
  exact ⟨f i, by simp [List.getElem?_range hi], h i hi⟩

/-- A load of a type's value. -/
theorem load_sound {t : TypeId} {td : TD} {i : TypeInfo} {z : Value} (g : TdGives P t td i z) {b o j : Nat} {F : Nat → AV}
    (hc : ∀ k, k < td.size → ∃ c, w.cell? ⟨b, o + k, none⟩ = some c ∧ c.oneCell' = true ∧ Rep1 T I w ρ (F (j + k)) c) :
    ∃ x, (Instr.loadAt t (.pointer (some ⟨b, o, none⟩))).run P w = .ok x w ∧ Rep T I w ρ (td.val F j) x := by
  have hs : (Instr.loadAt t (.pointer (some ⟨b, o, none⟩))).run P w = (loadVar t ⟨b, o, none⟩).run P w := by
    simp [Instr.loadAt, Instr.sureAddr]
  rw [hs]
  unfold loadVar
  simp only [Sem.run_bind, g.run_isAgg, Result.andThen_ok]
  unfold TD.val
  cases ha : td.desc.agg with
  | true =>
    simp only [if_true, Sem.run_bind, g.run_sizeOf, Result.andThen_ok]
    have hl := run_loadCells (P := P) w ⟨b, o, none⟩ td.size (fun k => (w.cell? ⟨b, o + k, none⟩).getD undef) (fun k hk => by
      obtain ⟨c, hc1, _⟩ := hc k hk
      rw [add_at, hc1]; rfl)
    rw [hl]
    refine ⟨_, rfl, ?_⟩
    simp only [Rep, Rep2]
    refine ⟨_, rfl, repL_range fun k hk => ?_⟩
    obtain ⟨c, hc1, hc2, hc3⟩ := hc k hk
    rw [hc1]
    exact ⟨hc2, hc3⟩
  | false =>
    have h1 : td.size = 1 := by
      rcases g.one with h | h
      · rw [ha] at h; cases h
      · exact h
    obtain ⟨c, hc1, hc2, hc3⟩ := hc 0 (by omega)
    simp only [Nat.add_zero] at hc1 hc3
    simp only [Bool.false_eq_true, if_false, run_load, hc1]
    exact ⟨c, rfl, .of1 hc3⟩

/-- A field's address. -/
theorem fieldAt_sound (h : TabOK P E) {t : TypeId} {fs : List (Nat × Nat × TypeId)} {s b : Nat} {z : List AV} (ht : E.tab t = some ⟨.struct fs, s, b, z⟩) {f o sz : Nat} {ft : TypeId}
    (hf : f < fs.length) (hl : lookF fs f = (o, sz, ft)) (hz : 0 < sz) (a : Addr) :
    (Instr.fieldAt t (.pointer (some a)) f).run P w = .ok (.pointer (some (a.add o))) w := by
  obtain ⟨i, zv, g⟩ := h.gives ht
  obtain ⟨fields, hu, hm⟩ := g.struct rfl
  obtain ⟨hlen, hk⟩ := mapM_look hm
  obtain ⟨fl, fi, hfl, hfi, hlk⟩ := hk f hf
  rw [hl] at hlk
  simp only [Prod.mk.injEq] at hlk
  obtain ⟨rfl, rfl, rfl⟩ := hlk
  have hfl' : fields[f]? = some fl := by rw [← Array.getElem?_toList]; exact hfl
  have hne : fi.size ≠ 0 := by omega
  simp [Instr.fieldAt, run_underlying hu, hfl', Instr.sureAddr, fieldPlace, sizeOf, typeInfo, hfi, hne]

/-- An element's address. -/
theorem indexAt_slice {t e : TypeId} {te : TD} {ie : TypeInfo} {ze : Value} (hu : P.underlying t = some (.slice e)) (ge : TdGives P e te ie ze) {k : IntKind} {i : Int} {a : Addr} {len cap : Nat}
    (h0 : 0 ≤ i) (h1 : i < len) : (Instr.indexAt t (.slice (some a) len cap) (.int k i)).run P w = .ok (.pointer (some (a.add (i.toNat * te.size)))) w := by
  simp [Instr.indexAt, asIntOf, run_underlying hu, h0, h1, ge.run_sizeOf]
theorem indexAt_array {t e : TypeId} {te : TD} {ie : TypeInfo} {ze : Value} {n : Nat} (hu : P.underlying t = some (.array n e)) (ge : TdGives P e te ie ze) {k : IntKind} {i : Int} {a : Addr}
    (h0 : 0 ≤ i) (h1 : i < n) : (Instr.indexAt t (.pointer (some a)) (.int k i)).run P w = .ok (.pointer (some (a.add (i.toNat * te.size)))) w := by
  simp [Instr.indexAt, asIntOf, run_underlying hu, Instr.sureAddr, h0, h1, ge.run_sizeOf]

theorem tab_slice (h : TabOK P E) {t e : TypeId} {s b : Nat} {z : List AV} (ht : E.tab t = some ⟨.slice e, s, b, z⟩) : P.underlying t = some (.slice e) := by
  obtain ⟨i, z, g⟩ := h.gives ht
  exact g.slice rfl
theorem tab_array (h : TabOK P E) {t e : TypeId} {n s b : Nat} {z : List AV} (ht : E.tab t = some ⟨.array n e, s, b, z⟩) : P.underlying t = some (.array n e) := by
  obtain ⟨i, z, g⟩ := h.gives ht
  exact g.array rfl

theorem aindex_sound (h : TabOK P E) (M : MRel E.errT B w0 I0 ρ I m w) (t : TypeId) (x ix : AV) (xv ixv : Value) (ci : Option Nat)
    (hx : Rep E.errT I w ρ x xv) (hix : Rep E.errT I w ρ ix ixv) : ValOK E.errT I w ρ P (Instr.indexAt t xv ixv) (aindex E t x ix ci (rowOf m x)) := by
  unfold aindex
  split
  · rename_i e s b z k i ht
    rw [rep_int] at hix; subst hix
    have hu := tab_slice h ht
    split
    · rename_i d ts bs zs sz n f he
      obtain ⟨ie, ze, ge⟩ := h.gives he
      simp only [Rep, Rep2, Rep1] at hx
      obtain ⟨a, cap, rfl, hn, hcap, hz⟩ := hx
      split
      · rename_i hs
        have hs' : sz = ts := Nat.eq_of_beq_eq_true hs
        subst hs'
        rintro ⟨h0, h1⟩
        obtain ⟨b, o, rfl, hcells⟩ := hz (by omega)
        refine ⟨_, indexAt_slice hu ge h0 h1, ?_⟩
        simp only [Rep, Rep2, Rep1, add_at]
        refine ⟨b, o + i.toNat * sz, rfl, fun j hj => ?_⟩
        have := hcells i.toNat j (by omega) hj
        simpa [Nat.add_assoc] using this
      · trivial
    · rename_i d ts bs zs id n f he
      obtain ⟨ie, ze, ge⟩ := h.gives he
      split
      · rename_i hs
        have hs' : 1 = ts := Nat.eq_of_beq_eq_true hs
        subst hs'
        rintro ⟨h0, h1⟩
        simp only [Rep, Rep2, Rep1] at hx
        rcases hx with ⟨g, cap, e', hp, n1, n2, n3, x, rfl, hxe, hz⟩ | ⟨sz, hp, rfl, rfl⟩
        · refine ⟨_, indexAt_slice hu ge h0 h1, ?_⟩
          simp only [Rep, Rep2, Rep1, add_at]
          refine ⟨g, x + i.toNat * 1, rfl, fun j hj => ?_⟩
          have hj0 : j = 0 := by omega
          subst hj0
          have := hz i.toNat (by omega)
          rw [hxe (.inr (by omega)), Nat.mul_one, Nat.add_zero]
          exact this
        · omega
      · trivial
    · rename_i d ts bs zs id n he
      obtain ⟨ie, ze, ge⟩ := h.gives he
      split
      · rename_i re sz rn rf rst bx hm
        have hm : m id = some ⟨re, sz, rn, rf, rst, bx⟩ := hm
        split
        · rename_i hs
          have hs' : sz = ts := Nat.eq_of_beq_eq_true hs
          subst hs'
          rintro ⟨h0, h1⟩
          simp only [Rep, Rep2, Rep1] at hx
          rcases hx with ⟨g, cap, sz', hp, rfl⟩ | ⟨sz', hp, rfl, rfl⟩
          · obtain ⟨q1, _, _, _⟩ := M.sz hp hm
            simp only at q1
            subst q1
            refine ⟨_, indexAt_slice hu ge h0 h1, ?_⟩
            simp only [Rep, Rep2, Rep1, add_at]
            exact ⟨g, cap, sz', n, hp, by omega, by omega, by simp⟩
          · omega
        · trivial
      · trivial
    · trivial
  · rename_i n e s b z k i ht
    rw [rep_int] at hix; subst hix
    have hu := tab_array h ht
    split
    · rename_i d ts bs zs id j c he
      obtain ⟨ie, ze, ge⟩ := h.gives he
      split
      · rename_i hc
        rintro rfl
        simp only [Rep, Rep2, Rep1] at hx
        obtain ⟨g, cap, sz, n', hp, rfl⟩ := hx
        refine ⟨_, indexAt_array hu ge (by omega) (by have : c < n := by simpa using hc
                                                      omega), ?_⟩
        simp only [Rep, Rep2, Rep1, add_at]
        exact ⟨g, cap, sz, n', hp, by simp⟩
      · trivial
    · rename_i d ts bs zs id j he
      obtain ⟨ie, ze, ge⟩ := h.gives he
      split
      · rename_i re sz rn rf rst bx hm
        have hm : m id = some ⟨re, sz, rn, rf, rst, bx⟩ := hm
        split
        · rename_i h1 h2
          rintro ⟨h3, h4⟩
          simp only [Rep, Rep2, Rep1] at hx
          obtain ⟨g, cap, sz', n', hp, rfl⟩ := hx
          obtain ⟨q1, q2, _, _⟩ := M.sz hp hm
          simp only at q1 q2
          subst q1; subst q2
          have h1' : 0 < n' := by simpa using h1
          have h2' : j + n * ts ≤ sz' := by simpa using h2
          have h5 : (i.toNat + 1) * ts ≤ n * ts := Nat.mul_le_mul_right _ (by omega)
          rw [Nat.add_mul] at h5
          refine ⟨_, indexAt_array hu ge h3 h4, ?_⟩
          simp only [Rep, Rep2, Rep1, add_at]
          exact ⟨g, cap, sz', n', hp, h1', by omega, by simp⟩
        · trivial
      · trivial
    · rename_i d ts bs zs id a j k' he
      obtain ⟨ie, ze, ge⟩ := h.gives he
      split
      · rename_i h1
        rintro ⟨h3, h4⟩
        simp only [Rep, Rep2, Rep1] at hx
        obtain ⟨g, cap, sz', n', hp, h5, h6, rfl⟩ := hx
        have h1' : n * ts ≤ k' := by simpa using h1
        have h7 : (i.toNat + 1) * ts ≤ n * ts := Nat.mul_le_mul_right _ (by omega)
        rw [Nat.add_mul] at h7
        refine ⟨_, indexAt_array hu ge h3 h4, ?_⟩
        simp only [Rep, Rep2, Rep1, add_at]
        exact ⟨g, cap, sz', n', hp, h5, by omega, by simp [Nat.add_assoc]⟩
      · trivial
    · rename_i d ts bs zs k' g' he
      obtain ⟨ie, ze, ge⟩ := h.gives he
      split
      · rename_i h1
        rintro ⟨h3, h4⟩
        simp only [Rep, Rep2, Rep1] at hx
        obtain ⟨b', o, rfl, hc⟩ := hx
        have h1' : n * ts ≤ k' := by simpa using h1
        have h7 : (i.toNat + 1) * ts ≤ n * ts := Nat.mul_le_mul_right _ (by omega)
        rw [Nat.add_mul] at h7
        refine ⟨_, indexAt_array hu ge h3 h4, ?_⟩
        simp only [Rep, Rep2, Rep1, add_at]
        refine ⟨b', _, rfl, fun q hq => ?_⟩
        have := hc (i.toNat * ts + q) (by omega)
        simpa [Nat.add_assoc] using this
      · trivial
    · trivial
  · trivial
end Go.Proofs.Ytbhbjmneglkgnaa.AI
