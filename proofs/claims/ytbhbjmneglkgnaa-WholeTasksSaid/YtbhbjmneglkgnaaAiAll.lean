/- Every operation of the evaluator is the model's: all kinds at once. Conditions: none. -/
import Derived.Test.YtbhbjmneglkgnaaAiOp
namespace Go.Proofs.Ytbhbjmneglkgnaa.AI
open Go Go.RowKit

variable {P : Program} {E : Env} {T : TypeId} {B : Nat} {w0 : World} {I0 : Nat → Nat → Prop} {ρ ρ' : Nat → Place} {I I' : Nat → Nat → Prop} {m : Nat → Option Row} {w w' : World}

theorem valOK_load (h : TabOK P E) (M : MRel E.errT B w0 I0 ρ I m w) (t : TypeId) (x : AV) (xv : Value) (hx : Rep E.errT I w ρ x xv) (ev : Operand → AV) (xo : Operand) (hev : ev xo = x) (d : Nat) :
    ValOK E.errT I w ρ P (Instr.loadAt t xv) (aop E (.load t xo) d ev m) := by
  simp only [aop, hev, aload]
  split
  · rename_i td id j ht
    obtain ⟨i, z, g⟩ := h.gives ht
    simp only [Rep, Rep2, Rep1] at hx
    obtain ⟨b, cap, sz, n, hp, rfl⟩ := hx
    split
    · rename_i e sz' n' f st bx hm
      have hm : m id = some ⟨e, sz', n', f, st, bx⟩ := hm
      obtain ⟨q1, q2, _, _⟩ := M.sz hp hm
      simp only at q1 q2
      subst q1; subst q2
      split
      · rename_i c1 c2
        have c1' : 0 < n := by simpa using c1
        have c2' : j + td.size ≤ sz := by simpa using c2
        have hc : ∀ k, k < td.size → ∃ c, w.cell? ⟨b, j + k, none⟩ = some c ∧ c.oneCell' = true ∧ Rep1 E.errT I w (plOf bx ρ) (f 0 (j + k)) c := fun k hk => by
          obtain ⟨c, h1, h2, h3⟩ := M.cellAt hp hm c1' (show j + k < sz by omega)
          rw [Nat.zero_mul, Nat.zero_add] at h1
          exact ⟨c, h1, h2, h3⟩
        obtain ⟨v, h1, h2⟩ := load_sound (P := P) (ρ := plOf bx ρ) g hc
        refine ⟨v, h1, ?_⟩
        cases bx with
        | true => exact h2
        | false => exact Rep.mono ⟨fun id hn => absurd rfl hn, fun _ _ h => h, fun _ _ _ => rfl⟩ _ _ h2
      · trivial
    · trivial
  · rename_i td id i j k ht
    obtain ⟨ti, z, g⟩ := h.gives ht
    simp only [Rep, Rep2, Rep1] at hx
    obtain ⟨b, cap, sz, n, hp, hi, hj, rfl⟩ := hx
    split
    · rename_i e sz' n' f st bx hm
      have hm : m id = some ⟨e, sz', n', f, st, bx⟩ := hm
      obtain ⟨q1, q2, _, _⟩ := M.sz hp hm
      simp only at q1 q2
      subst q1; subst q2
      split
      case h_2 => trivial
      rename_i c2
      have c2' : td.size ≤ k := by simpa using c2
      have hc : ∀ q, q < td.size → ∃ c, w.cell? ⟨b, i * sz + j + q, none⟩ = some c ∧ c.oneCell' = true ∧ Rep1 E.errT I w (plOf bx ρ) (f i (j + q)) c := fun q hq => by
        obtain ⟨c, h1, h2, h3⟩ := M.cellAt hp hm hi (show j + q < sz by omega)
        rw [← Nat.add_assoc] at h1
        exact ⟨c, h1, h2, h3⟩
      obtain ⟨v, h1, h2⟩ := load_sound (P := P) (ρ := plOf bx ρ) g hc
      refine ⟨v, h1, ?_⟩
      cases bx with
      | true => exact h2
      | false => exact Rep.mono ⟨fun id hn => absurd rfl hn, fun _ _ h => h, fun _ _ _ => rfl⟩ _ _ h2
    · trivial
  · rename_i td k gf ht
    obtain ⟨ti, z, g⟩ := h.gives ht
    simp only [Rep, Rep2, Rep1] at hx
    obtain ⟨b, o, rfl, hc⟩ := hx
    split
    · rename_i c2
      have c2' : td.size ≤ k := by simpa using c2
      have hc' : ∀ q, q < td.size → ∃ c, w.cell? ⟨b, o + q, none⟩ = some c ∧ c.oneCell' = true ∧ Rep1 E.errT I w noPl (gf (0 + q)) c := fun q hq => by
        obtain ⟨_, c, h1, h2, h3⟩ := hc q (by omega)
        exact ⟨c, h1, h2, by rw [Nat.zero_add]; exact h3⟩
      obtain ⟨v, h1, h2⟩ := load_sound (P := P) (ρ := noPl) g hc'
      exact ⟨v, h1, Rep.mono ⟨fun id hn => absurd rfl hn, fun _ _ h => h, fun _ _ _ => rfl⟩ _ _ h2⟩
    · trivial
  · trivial

theorem valOK_fieldAddr (h : TabOK P E) (t : TypeId) (f : Nat) (x : AV) (xv : Value) (hx : Rep E.errT I w ρ x xv) (ev : Operand → AV) (xo : Operand) (hev : ev xo = x) (d : Nat) :
    ValOK E.errT I w ρ P (Instr.fieldAt t xv f) (aop E (.fieldAddr t xo f) d ev m) := by
  simp only [aop, hev]
  split
  · rename_i fs s b z ht
    split
    · rename_i o sz ft id j hf hl
      have hf' : f < fs.length := by simpa using hf
      simp only [Rep, Rep2, Rep1] at hx
      obtain ⟨g, cap, sz', n, hp, rfl⟩ := hx
      split
      · rename_i hz
        refine ⟨_, fieldAt_sound h ht hf' hl (by simpa using hz) _, ?_⟩
        simp only [Rep, Rep2, Rep1, add_at]
        exact ⟨g, cap, sz', n, hp, rfl⟩
      · trivial
    · rename_i o sz ft id i j k hf hl
      have hf' : f < fs.length := by simpa using hf
      simp only [Rep, Rep2, Rep1] at hx
      obtain ⟨g, cap, sz', n, hp, hi, hj, rfl⟩ := hx
      split
      · rename_i hz hw
        have hw' : o + sz ≤ k := by simpa using hw
        refine ⟨_, fieldAt_sound h ht hf' hl (by simpa using hz) _, ?_⟩
        simp only [Rep, Rep2, Rep1, add_at]
        exact ⟨g, cap, sz', n, hp, hi, by omega, by simp [Nat.add_assoc]⟩
      · trivial
    · rename_i o sz ft k gf hf hl
      have hf' : f < fs.length := by simpa using hf
      simp only [Rep, Rep2, Rep1] at hx
      obtain ⟨b', o', rfl, hc⟩ := hx
      split
      · rename_i hz hw
        have hw' : o + sz ≤ k := by simpa using hw
        refine ⟨_, fieldAt_sound h ht hf' hl (by simpa using hz) _, ?_⟩
        simp only [Rep, Rep2, Rep1, add_at]
        refine ⟨b', o' + o, rfl, fun j hj => ?_⟩
        have := hc (o + j) (by omega)
        simpa [Nat.add_assoc] using this
      · trivial
    · trivial
  · trivial

/-- A part of an aggregate. -/
theorem part_sound {t : TypeId} {td : TD} {i : TypeInfo} {z : Value} (g : TdGives P t td i z) {cs : List AV} {arr : Array Value} (hl : RepL T I w ρ cs arr.toList) {o : Nat} (ho : o + td.size ≤ cs.length) :
    ∃ x, (part t arr o).run P w = .ok x w ∧ Rep T I w ρ (td.val (nth cs) o) x := by
  have hsz : arr.size = cs.length := by rw [← Array.length_toList]; exact hl.length.symm
  unfold part
  simp only [Sem.run_bind, g.run_isAgg, Result.andThen_ok]
  unfold TD.val
  cases ha : td.desc.agg with
  | true =>
    simp only [if_true, Sem.run_bind, g.run_sizeOf, Result.andThen_ok, Sem.run_pure]
    refine ⟨_, rfl, ?_⟩
    simp only [Rep, Rep2]
    refine ⟨_, rfl, repL_of _ _ ?_ fun k hk => ?_⟩
    · rw [takeF_length, Array.length_toList, Array.size_extract, hsz, Nat.min_eq_left ho]
      omega
    · rw [takeF_length] at hk
      rw [nth_takeF _ _ _ _ hk]
      obtain ⟨c, h1, h2, h3⟩ := hl.nth (o + k) (by omega)
      refine ⟨c, ?_, h2, h3⟩
      rw [Array.getElem?_toList] at h1 ⊢
      rw [Array.getElem?_extract]
      rw [if_pos (by rw [hsz, Nat.min_eq_left ho]; omega)]
      exact h1
  | false =>
    have h1 : td.size = 1 := by
      rcases g.one with h | h
      · rw [ha] at h; cases h
      · exact h
    obtain ⟨c, hc1, hc2, hc3⟩ := hl.nth o (by omega)
    rw [Array.getElem?_toList] at hc1
    simp only [Bool.false_eq_true, if_false, hc1]
    exact ⟨c, rfl, .of1 hc3⟩

theorem places_of {P : Program} : ∀ {fields : List Field} {fs : List (Nat × Nat × TypeId)}, (fields.mapM fun f => (P.info? f.type).map fun i => (f.offset, i.size, f.type)) = some fs →
    (fields.mapM fun f => (P.info? f.type).map fun i => (f.offset, i.size)) = some (fs.map fun x => (x.1, x.2.1))
  | [], fs, h => by simp at h; subst h; simp
  | f :: r, fs, h => by
    simp only [List.mapM_cons, Option.bind_eq_bind, Option.pure_def] at h ⊢
    cases hi : P.info? f.type with
    | none => simp [hi] at h
    | some i =>
      cases hr : r.mapM (fun f => (P.info? f.type).map fun i => (f.offset, i.size, f.type)) with
      | none => simp [hi, hr] at h
      | some rest =>
        simp [hi, hr] at h
        subst h
        simp [places_of hr]

theorem lookF_getElem : ∀ (fs : List (Nat × Nat × TypeId)) (i : Nat), i < fs.length → fs[i]? = some (lookF fs i)
  | x :: _, 0, _ => by simp [lookF]
  | _ :: l, i + 1, h => by simpa [lookF] using lookF_getElem l i (by simpa using h)
  | [], _, h => by simp at h

theorem noTup_of_parts {place : Nat → Nat} {sz : Nat → Nat} {n size : Nat} {g : AV → AV} (hg : ∀ v, okPart (g v) = true → noTup v = true) {ev : Operand → AV} : ∀ (ps : List (Nat × Operand)),
    partsOK place sz n size (ps.map fun p => (p.1, g (ev p.2))) = true → ∀ p ∈ ps, noTup (ev p.2) = true
  | [], _, _, hp => by simp at hp
  | q :: r, h, p, hp => by
    simp only [List.map_cons, partsOK, Bool.and_eq_true] at h
    rcases List.mem_cons.1 hp with e | e
    · subst e; exact hg _ h.1.1.1.1
    · exact noTup_of_parts hg r h.2 p e

theorem noTup_ok {v : AV} (h : okPart v = true) : noTup v = true := by cases v <;> simp_all [okPart, noTup]
theorem noTup_pure {m : Nat → Option Row} {v : AV} (h : okPart (pure1 m v) = true) : noTup v = true := by
  cases v <;> first
    | rfl
    | (simp [pure1, okPart] at h)

theorem build_sound (h : TabOK P E) (t : TypeId) (ps : Array (Nat × Operand)) {ev : Operand → AV} {evc : Operand → Value} (hev : ∀ x, Rep E.errT I w ρ (ev x) (evc x)) (d : Nat) :
    ValOK E.errT I w ρ P (Instr.build t (ps.map fun (i, x) => (i, evc x))) (aop E (.build t ps) d ev m) := by
  have hparts : (ps.map fun (i, x) => (i, evc x)).toList = ps.toList.map fun p => (p.1, evc p.2) := by simp
  have fin : ∀ {pl sz : Nat → Nat} {n size : Nat} {place : Nat → Option (Nat × Nat)} {zl : List AV} {zc : Array Value}, (∀ i, i < n → place i = some (pl i, sz i)) → RepL E.errT I w ρ zl zc.toList → zc.size = size →
      partsOK pl sz n size (ps.toList.map fun p => (p.1, ev p.2)) = true →
      ∃ out, Instr.fill place zc (ps.toList.map fun p => (p.1, evc p.2)) = some out ∧ RepL E.errT I w ρ (takeF (fillF pl (ps.toList.map fun p => (p.1, ev p.2)) (nth zl)) 0 size) out.toList := by
    intro pl sz n size place zl zc hpl hz hzs hok
    have hno := noTup_of_parts (g := id) (fun v hv => noTup_ok hv) ps.toList hok
    obtain ⟨out, f1, f2, f3⟩ := fill_sound (T := E.errT) (I := I) (w := w) (ρ := ρ) pl sz n size place hpl _ _ (nth zl) zc hok (partsRep_map (ev := ev) (evc := evc) id ps.toList fun p hp => rep2_of (hno p hp) (hev p.2)) hzs (fun j hj => repl_cell hzs hz j hj)
    refine ⟨out, f1, repL_of _ _ (by rw [takeF_length, Array.length_toList, f2]) fun k hk => ?_⟩
    rw [takeF_length] at hk
    rw [nth_takeF _ _ _ _ hk, Nat.zero_add, Array.getElem?_toList]
    exact f3 k hk
  simp only [aop]
  split
  · rename_i fs size b z ht
    obtain ⟨i, zv, g⟩ := h.gives ht
    obtain ⟨fields, hu, hm⟩ := g.struct rfl
    have hpl := places_of hm
    split
    · rename_i hok
      obtain ⟨out, f1, f2⟩ := fin (place := (((fs.map fun x => (x.1, x.2.1)).toArray)[·]?)) (fun i hi => by
        simp only [List.getElem?_toArray, List.getElem?_map, lookF_getElem fs i hi]; rfl) g.zrep g.zsize hok
      refine ⟨_, run_build (P := P) w t _ out ?_, ?_⟩
      · unfold Program.built
        rw [hparts]
        simp only [g.info, hu, g.zero, hpl]
        exact f1
      · simp only [Rep, Rep2]
        exact ⟨out, rfl, f2⟩
    · trivial
  · rename_i n e size b z ht
    obtain ⟨i, zv, g⟩ := h.gives ht
    have hu := g.array rfl
    split
    · rename_i desc ts tb tz he
      obtain ⟨ie, ze, ge⟩ := h.gives he
      split
      · rename_i hok
        obtain ⟨out, f1, f2⟩ := fin (place := fun i => some (i * ie.size, ie.size)) (fun i hi => by rw [ge.size]) g.zrep g.zsize hok
        refine ⟨_, run_build (P := P) w t _ out ?_, ?_⟩
        · unfold Program.built
          rw [hparts]
          simp only [g.info, hu, g.zero, ge.info]
          exact f1
        · simp only [Rep, Rep2]
          exact ⟨out, rfl, f2⟩
      · trivial
    · trivial
  · trivial
end Go.Proofs.Ytbhbjmneglkgnaa.AI
