/- The evaluator's operations are the model's: those that make and change no memory. Conditions: none. -/
import Derived.Test.YtbhbjmneglkgnaaAiTab
import Derived.WalkSpells
import Derived.WalkLawsBesides
import Derived.Laws.StructEq
import Derived.ChangeKeysEq
namespace Go.Proofs.Ytbhbjmneglkgnaa.AI
open Go Go.RowKit

/-- A result without a change of the world. -/
def ValOK (T : TypeId) (I : Nat → Nat → Prop) (w : World) (ρ : Nat → Place) (P : Program) (s : Sem Value) : R0 → Prop
  | .no => True
  | .val v => ∃ x, s.run P w = .ok x w ∧ Rep T I w ρ v x
  | .valc p v => p → ∃ x, s.run P w = .ok x w ∧ Rep T I w ρ v x
  | .eff .. => True

variable {P : Program} {E : Env} {ρ : Nat → Place} {I : Nat → Nat → Prop} {w : World}

theorem rep_int {T : TypeId} {k : IntKind} {n : Int} {v : Value} : Rep T I w ρ (.int k n) v ↔ v = .int k n := by simp [Rep, Rep2, Rep1]
theorem rep_bit {T : TypeId} {b : Bool} {v : Value} : Rep T I w ρ (.bit b) v ↔ v = .bool b := by simp [Rep, Rep2, Rep1]
theorem rep_nilI {T : TypeId} {v : Value} : Rep T I w ρ .nilI v ↔ v = .nilIface := by simp [Rep, Rep2, Rep1]
theorem rep_err {T : TypeId} {n : Int} {v : Value} : Rep T I w ρ (.err n) v ↔ v = errV T n := by simp [Rep, Rep2, Rep1]
theorem rep_nilS {T : TypeId} {v : Value} : Rep T I w ρ .nilS v ↔ v = .slice none 0 0 := by simp [Rep, Rep2, Rep1]

theorem tab_iface (h : TabOK P E) {t : TypeId} {s b : Nat} {z : List AV} (ht : E.tab t = some ⟨.iface, s, b, z⟩) : ∃ ms, P.underlying t = some (.interface ms) := by
  obtain ⟨i, z, g⟩ := h.gives ht
  exact g.iface rfl
theorem tab_bool (h : TabOK P E) {t : TypeId} {s b : Nat} {z : List AV} (ht : E.tab t = some ⟨.bool, s, b, z⟩) : P.underlying t = some .bool := by
  obtain ⟨i, z, g⟩ := h.gives ht
  exact g.bool rfl

theorem run_isnil {t : TypeId} {ms : Array (String × TypeId)} (h : P.underlying t = some (.interface ms)) (v : Value) (hv : v = .nilIface ∨ ∃ u x, v = .iface u x) :
    (Op.equal t v .nilIface).run P w = .ok (match v with | .nilIface => true | _ => false) w := by
  have key : ∀ d : Nat, (Op.equalIn (d + 1) t v .nilIface).run P w = .ok (match v with | .nilIface => true | _ => false) w := fun d => by
    rcases hv with rfl | ⟨u, x, rfl⟩ <;> simp [Op.equalIn, run_underlying h]
  exact key 9999

theorem run_ptrnil {t e : TypeId} (h : P.underlying t = some (.pointer e)) (v : Value) (hv : v = .pointer none ∨ ∃ a, v = .pointer (some a)) :
    (Op.equal t v (.pointer none)).run P w = .ok (match v with | .pointer none => true | _ => false) w := by
  have key : ∀ d : Nat, (Op.equalIn (d + 1) t v (.pointer none)).run P w = .ok (match v with | .pointer none => true | _ => false) w := fun d => by
    rcases hv with rfl | ⟨a, rfl⟩ <;> simp [Op.equalIn, run_underlying h]
  exact key 9999
theorem errV_cases (T : TypeId) (n : Int) : (n = 0 ∧ errV T n = .nilIface) ∨ (n ≠ 0 ∧ errV T n = .iface T (.int .i64 n)) := by
  unfold errV
  by_cases h : n = 0 <;> simp [h]

/-- '==' and '!=' of an error and the literal nil. -/
theorem run_eqnil (h : TabOK P E) {t : TypeId} {s b : Nat} {z : List AV} (ht : E.tab t = some ⟨.iface, s, b, z⟩) {n : Int} (T : TypeId) (xo : Operand) :
    (do eqGuard .eql t xo (.const .nilIface) (errV T n) .nilIface; binOp .eql t (errV T n) .nilIface : Sem Value).run P w = .ok (.bool (decide (n = 0))) w := by
  obtain ⟨ms, hms⟩ := tab_iface h ht
  rcases errV_cases T n with ⟨h0, he⟩ | ⟨h0, he⟩
  · rw [he]
    simp [eqGuard, binOp, run_isnil hms .nilIface (.inl rfl), h0]
  · rw [he]
    simp [eqGuard, binOp, run_isnil hms (.iface T (.int .i64 n)) (.inr ⟨_, _, rfl⟩), h0]
theorem run_neqnil (h : TabOK P E) {t : TypeId} {s b : Nat} {z : List AV} (ht : E.tab t = some ⟨.iface, s, b, z⟩) {n : Int} (T : TypeId) (xo : Operand) :
    (do eqGuard .neq t xo (.const .nilIface) (errV T n) .nilIface; binOp .neq t (errV T n) .nilIface : Sem Value).run P w = .ok (.bool (!decide (n = 0))) w := by
  obtain ⟨ms, hms⟩ := tab_iface h ht
  rcases errV_cases T n with ⟨h0, he⟩ | ⟨h0, he⟩
  · rw [he]
    simp [eqGuard, binOp, run_isnil hms .nilIface (.inl rfl), h0]
  · rw [he]
    simp [eqGuard, binOp, run_isnil hms (.iface T (.int .i64 n)) (.inr ⟨_, _, rfl⟩), h0]

theorem isNilConst_eq {y : Operand} (h : isNilConst y = true) : y = .const .nilIface := by
  unfold isNilConst at h
  split at h <;> simp_all

theorem repL_cell {T : TypeId} : ∀ {xs : List AV} {vs : List Value} {o : Nat}, RepL T I w ρ xs vs → nth xs o ≠ .bad → ∃ v, vs[o]? = some v ∧ Rep1 T I w ρ (nth xs o) v
  | [], _, _, _, hb => absurd rfl hb
  | x :: xs, [], _, hr, _ => by simp [RepL] at hr
  | x :: xs, v :: vs, 0, hr, _ => by
    simp only [RepL] at hr
    exact ⟨v, rfl, hr.1.2⟩
  | x :: xs, v :: vs, o + 1, hr, hb => by
    simp only [RepL] at hr
    exact repL_cell (o := o) hr.2 hb
theorem run_part_cell {ft : TypeId} {td : TD} {i : TypeInfo} {z : Value} (g : TdGives P ft td i z) (hd : td.desc.agg = false) {arr : Array Value} {o : Nat} {v : Value} (hv : arr.toList[o]? = some v) (w : World) :
    (part ft arr o).run P w = .ok v w := by
  have hv' : arr[o]? = some v := by simpa using hv
  unfold part
  simp [Sem.run_bind, g.run_isAgg w, hd, hv']
theorem eqF_sound (h : TabOK P E) {xs ys : List AV} {as bs : Array Value} (hx : RepL E.errT I w ρ xs as.toList) (hy : RepL E.errT I w ρ ys bs.toList) (d : Nat) :
    ∀ (fields : List Field) (fs : List (Nat × Nat × TypeId)) (c : Bool), (fields.mapM fun f => (P.info? f.type).map fun i => (f.offset, i.size, f.type)) = some fs → eqF E xs ys fs = some c →
      fields.all (simpleF P) = true ∧ ((∀ f ∈ fields, f.name ≠ "_") → (Op.eqFields (d + 1) as bs fields).run P w = .ok c w)
  | [], fs, c, hm, he => by
    simp at hm
    subst hm
    simp only [eqF, Option.some.injEq] at he
    subst he
    exact ⟨rfl, fun _ => by simp [Op.eqFields]⟩
  | f :: r, fs, c, hm, he => by
    simp only [List.mapM_cons, Option.bind_eq_bind, Option.pure_def] at hm
    cases hi : P.info? f.type with
    | none => simp [hi] at hm
    | some i =>
      cases hr : r.mapM (fun f => (P.info? f.type).map fun i => (f.offset, i.size, f.type)) with
      | none => simp [hi, hr] at hm
      | some rest =>
        simp [hi, hr] at hm
        subst hm
        simp only [eqF] at he
        split at he
        · rename_i _ _ _ _ _ a b ht ha hb
          split at he
          · rename_i c' hc'
            injection he with he
            subst he
            obtain ⟨ih1, ih2⟩ := eqF_sound h hx hy d r rest c' hr hc'
            obtain ⟨i', z', g⟩ := h.gives ht
            have hu := g.int rfl
            obtain ⟨va, va1, va2⟩ := repL_cell (o := f.offset) hx (by rw [ha]; simp)
            obtain ⟨vb, vb1, vb2⟩ := repL_cell (o := f.offset) hy (by rw [hb]; simp)
            rw [ha] at va2
            rw [hb] at vb2
            simp only [Rep1] at va2 vb2
            subst va2 vb2
            refine ⟨by simp only [List.all_cons, Bool.and_eq_true]; exact ⟨by simp [simpleF, hu], ih1⟩, fun hn => ?_⟩
            have hn0 := hn f (by simp)
            have p1 := run_part_cell g rfl va1 w
            have p2 := run_part_cell g rfl vb1 w
            have p3 := run_equalIn_int (w := w) d f.type .i64 .i64 a b hu
            have p4 := ih2 fun q hq => hn q (by simp [hq])
            simp only [Op.eqFields, hn0, ne_eq, not_false_eq_true, if_true, Sem.run_bind, p1, p2, p3, Result.andThen_ok]
            by_cases e : a = b
            · simp [e, p4]
            · simp [e]
          · cases he
        · rename_i _ _ _ _ _ a b ht ha hb
          split at he
          · rename_i c' hc'
            injection he with he
            subst he
            obtain ⟨ih1, ih2⟩ := eqF_sound h hx hy d r rest c' hr hc'
            obtain ⟨i', z', g⟩ := h.gives ht
            have hu := g.bool rfl
            obtain ⟨va, va1, va2⟩ := repL_cell (o := f.offset) hx (by rw [ha]; simp)
            obtain ⟨vb, vb1, vb2⟩ := repL_cell (o := f.offset) hy (by rw [hb]; simp)
            rw [ha] at va2
            rw [hb] at vb2
            simp only [Rep1] at va2 vb2
            subst va2 vb2
            refine ⟨by simp only [List.all_cons, Bool.and_eq_true]; exact ⟨by simp [simpleF, hu], ih1⟩, fun hn => ?_⟩
            have hn0 := hn f (by simp)
            have p1 := run_part_cell g rfl va1 w
            have p2 := run_part_cell g rfl vb1 w
            have p3 := run_equalIn_bool' (w := w) d f.type a b hu
            have p4 := ih2 fun q hq => hn q (by simp [hq])
            simp only [Op.eqFields, hn0, ne_eq, not_false_eq_true, if_true, Sem.run_bind, p1, p2, p3, Result.andThen_ok]
            cases e : (a == b)
            · simp
            · simp [p4]
          · cases he
        · cases he
theorem run_eqStruct (h : TabOK P E) {t : TypeId} {fs : List (Nat × Nat × TypeId)} {s b : Nat} {z : List AV} (ht : E.tab t = some ⟨.struct fs, s, b, z⟩) {xs ys : List AV} {as bs : Array Value}
    (hx : RepL E.errT I w ρ xs as.toList) (hy : RepL E.errT I w ρ ys bs.toList) {c : Bool} (he : eqF E xs ys fs = some c) (xo yo : Operand) :
    (do eqGuard .eql t xo yo (.agg as) (.agg bs); binOp .eql t (.agg as) (.agg bs) : Sem Value).run P w = .ok (.bool c) w := by
  obtain ⟨i, zz, g⟩ := h.gives ht
  obtain ⟨fields, hu, hm, hf⟩ := g.structEq rfl
  obtain ⟨h1, h2⟩ := eqF_sound h hx hy 9998 fields.toList fs c hm he
  have h3 := hf h1
  simp only [eqFine, Bool.and_eq_true, Bool.not_eq_true', List.all_eq_true, bne_iff_ne, ne_eq] at h3
  obtain ⟨⟨k1, k2⟩, k3⟩ := h3
  have hfo : P.fieldsOf t = fields := by simp [Program.fieldsOf, hu]
  have hu' : P.underlying t = some (.struct (P.fieldsOf t)) := by rw [hfo]; exact hu
  have h4 := run_equalIn_struct w 9999 t as bs hu' k1
  rw [hfo, h2 k3] at h4
  simp only [Sem.run_bind, run_eqGuard_agg w .eql t xo yo as bs k2, Result.andThen_ok, run_eql_struct, h4]
theorem run_neqStruct (h : TabOK P E) {t : TypeId} {fs : List (Nat × Nat × TypeId)} {s b : Nat} {z : List AV} (ht : E.tab t = some ⟨.struct fs, s, b, z⟩) {xs ys : List AV} {as bs : Array Value}
    (hx : RepL E.errT I w ρ xs as.toList) (hy : RepL E.errT I w ρ ys bs.toList) {c : Bool} (he : eqF E xs ys fs = some c) (xo yo : Operand) :
    (do eqGuard .neq t xo yo (.agg as) (.agg bs); binOp .neq t (.agg as) (.agg bs) : Sem Value).run P w = .ok (.bool (!c)) w := by
  obtain ⟨i, zz, g⟩ := h.gives ht
  obtain ⟨fields, hu, hm, hf⟩ := g.structEq rfl
  obtain ⟨h1, h2⟩ := eqF_sound h hx hy 9998 fields.toList fs c hm he
  have h3 := hf h1
  simp only [eqFine, Bool.and_eq_true, Bool.not_eq_true', List.all_eq_true, bne_iff_ne, ne_eq] at h3
  obtain ⟨⟨k1, k2⟩, k3⟩ := h3
  have hfo : P.fieldsOf t = fields := by simp [Program.fieldsOf, hu]
  have hu' : P.underlying t = some (.struct (P.fieldsOf t)) := by rw [hfo]; exact hu
  have h4 := run_equalIn_struct w 9999 t as bs hu' k1
  rw [hfo, h2 k3] at h4
  simp only [Sem.run_bind, run_eqGuard_agg w .neq t xo yo as bs k2, Result.andThen_ok, run_neq_struct, h4]

theorem drop_nth {v : AV} {t : List AV} : ∀ (zs : List AV) (k : Nat), zs.drop k = v :: t → nth zs k = v ∧ zs.drop (k + 1) = t
  | [], k, h => by simp at h
  | q :: qs, 0, h => by
    simp at h
    exact ⟨h.1, by simpa using h.2⟩
  | q :: qs, k + 1, h => by
    simp at h
    exact drop_nth qs k h
theorem eqBits_sound {e : TypeId} {td : TD} {i : TypeInfo} {z : Value} (g : TdGives P e td i z) (hd : td.desc = .bool) (d : Nat) {xs ys : List AV} {as bs : Array Value}
    (hx : RepL E.errT I w ρ xs as.toList) (hy : RepL E.errT I w ρ ys bs.toList) :
    ∀ (xr yr : List AV) (k : Nat) (c : Bool), xs.drop k = xr → ys.drop k = yr → eqBits xr yr = some c → (Op.eqItems (d + 1) e 1 as bs (List.range' k xr.length)).run P w = .ok c w
  | [], [], _, c, _, _, he => by
    simp only [eqBits, Option.some.injEq] at he
    subst he
    simp [Op.eqItems]
  | .bit a :: r, .bit b :: s, k, c, h1, h2, he => by
    simp only [eqBits] at he
    split at he
    · rename_i c' hc'
      injection he with he
      subst he
      obtain ⟨ha, ha'⟩ := drop_nth xs k h1
      obtain ⟨hb, hb'⟩ := drop_nth ys k h2
      have ih := eqBits_sound g hd d hx hy r s (k + 1) c' ha' hb' hc'
      obtain ⟨va, va1, va2⟩ := repL_cell (o := k) hx (by rw [ha]; simp)
      obtain ⟨vb, vb1, vb2⟩ := repL_cell (o := k) hy (by rw [hb]; simp)
      rw [ha] at va2
      rw [hb] at vb2
      simp only [Rep1] at va2 vb2
      subst va2 vb2
      have p1 := run_part_cell g (by rw [hd]; rfl) va1 w
      have p2 := run_part_cell g (by rw [hd]; rfl) vb1 w
      have p3 := run_equalIn_bool' (w := w) d e a b (g.bool hd)
      simp only [List.length_cons, List.range'_succ, Op.eqItems, Sem.run_bind, Nat.mul_one, p1, p2, p3, Result.andThen_ok]
      cases e : (a == b)
      · simp
      · simp [ih]
    · cases he
  | [], _ :: _, _, _, _, _, he => by simp [eqBits] at he
  | .bit _ :: _, [], _, _, _, _, he => by simp [eqBits] at he
  | .bad :: _, _, _, _, _, _, he => by simp [eqBits] at he
  | .int _ _ :: _, _, _, _, _, _, he => by simp [eqBits] at he
  | .str _ :: _, _, _, _, _, _, he => by simp [eqBits] at he
  | .nilI :: _, _, _, _, _, _, he => by simp [eqBits] at he
  | .err _ :: _, _, _, _, _, _, he => by simp [eqBits] at he
  | .nilP :: _, _, _, _, _, _, he => by simp [eqBits] at he
  | .nilS :: _, _, _, _, _, _, he => by simp [eqBits] at he
  | .nilF :: _, _, _, _, _, _, he => by simp [eqBits] at he
  | .clo _ _ _ :: _, _, _, _, _, _, he => by simp [eqBits] at he
  | .sl _ _ _ :: _, _, _, _, _, _, he => by simp [eqBits] at he
  | .iref _ _ :: _, _, _, _, _, _, he => by simp [eqBits] at he
  | .loc _ _ :: _, _, _, _, _, _, he => by simp [eqBits] at he
  | .elt _ _ _ _ :: _, _, _, _, _, _, he => by simp [eqBits] at he
  | .own _ _ :: _, _, _, _, _, _, he => by simp [eqBits] at he
  | .qs _ _ _ :: _, _, _, _, _, _, he => by simp [eqBits] at he
  | .agg _ :: _, _, _, _, _, _, he => by simp [eqBits] at he
  | .tup _ :: _, _, _, _, _, _, he => by simp [eqBits] at he
  | .bit _ :: _, .bad :: _, _, _, _, _, he => by simp [eqBits] at he
  | .bit _ :: _, .int _ _ :: _, _, _, _, _, he => by simp [eqBits] at he
  | .bit _ :: _, .str _ :: _, _, _, _, _, he => by simp [eqBits] at he
  | .bit _ :: _, .nilI :: _, _, _, _, _, he => by simp [eqBits] at he
  | .bit _ :: _, .err _ :: _, _, _, _, _, he => by simp [eqBits] at he
  | .bit _ :: _, .nilP :: _, _, _, _, _, he => by simp [eqBits] at he
  | .bit _ :: _, .nilS :: _, _, _, _, _, he => by simp [eqBits] at he
  | .bit _ :: _, .nilF :: _, _, _, _, _, he => by simp [eqBits] at he
  | .bit _ :: _, .clo _ _ _ :: _, _, _, _, _, he => by simp [eqBits] at he
  | .bit _ :: _, .sl _ _ _ :: _, _, _, _, _, he => by simp [eqBits] at he
  | .bit _ :: _, .iref _ _ :: _, _, _, _, _, he => by simp [eqBits] at he
  | .bit _ :: _, .loc _ _ :: _, _, _, _, _, he => by simp [eqBits] at he
  | .bit _ :: _, .elt _ _ _ _ :: _, _, _, _, _, he => by simp [eqBits] at he
  | .bit _ :: _, .own _ _ :: _, _, _, _, _, he => by simp [eqBits] at he
  | .bit _ :: _, .qs _ _ _ :: _, _, _, _, _, he => by simp [eqBits] at he
  | .bit _ :: _, .agg _ :: _, _, _, _, _, he => by simp [eqBits] at he
  | .bit _ :: _, .tup _ :: _, _, _, _, _, he => by simp [eqBits] at he
theorem run_eqArr (h : TabOK P E) {t : TypeId} {n : Nat} {e : TypeId} {s b : Nat} {z : List AV} (ht : E.tab t = some ⟨.array n e, s, b, z⟩) {xs ys : List AV} {as bs : Array Value}
    (hx : RepL E.errT I w ρ xs as.toList) (hy : RepL E.errT I w ρ ys bs.toList) {c : Bool} (he : eqArr E n e xs ys = some c) :
    P.eqGuardType P.depth t = false ∧ (Op.equalIn 10000 t (.agg as) (.agg bs)).run P w = .ok c w := by
  unfold eqArr at he
  split at he
  · rename_i _ _ _ _ hte hl
    obtain ⟨i, zz, g⟩ := h.gives ht
    obtain ⟨ie, ze, ge⟩ := h.gives hte
    have hu := g.array rfl
    have hub := ge.bool rfl
    have hf := g.arrayEq rfl
    unfold arrFine at hf
    rw [hub] at hf
    have hf : P.eqGuardType P.depth t = false := by simpa using hf
    refine ⟨hf, ?_⟩
    have hc : P.cellsOf e = 1 := by
      have h1 := ge.size
      rcases ge.one with h2 | h2
      · cases h2
      · unfold Program.cellsOf
        rw [ge.info]
        exact h1.trans h2
    have hn : xs.length = n := Nat.eq_of_beq_eq_true hl
    have := eqBits_sound ge rfl 9998 hx hy xs ys 0 c rfl rfl he
    rw [show (10000 : Nat) = 9999 + 1 from rfl, run_equalIn_array w 9999 as bs hu ge.info, hc, List.range_eq_range', ← hn]
    exact this
  · cases he
theorem abin_sound (h : TabOK P E) (op : BinOp) (t : TypeId) (xo yo : Operand) (x y : AV) (a b : Value) (hx : Rep E.errT I w ρ x a) (hy : Rep E.errT I w ρ y b) :
    ValOK E.errT I w ρ P (do eqGuard op t xo yo a b; binOp op t a b) (abin E op t (isNilConst yo) x y) := by
  unfold abin
  split <;> first
    | (rw [rep_int] at hx hy; subst hx; subst hy
       simp only [ValOK, rep_int, rep_bit]
       first
         | (refine ⟨_, ?_, rfl⟩; simp [eqGuard, binOp, Op.intArith, Op.intCmp, wr]; done)
         | (refine ⟨_, ?_, rfl⟩; simp [eqGuard, binOp, Op.intBits, uand, uor, IntKind.bits]; done)
         | (intro hp; refine ⟨_, ?_, rfl⟩; simp [eqGuard, binOp, Op.intDiv, hp, wr]; done)
         | (intro hp; refine ⟨_, ?_, rfl⟩; simp [eqGuard, binOp, Op.shift, Int.not_lt.2 hp, wr, IntKind.bits]; done)
         | exact ⟨_, rfl, rfl⟩)
    | skip
  · rw [rep_err] at hx; rw [rep_nilI] at hy; subst hx; subst hy
    split
    · rename_i hn ht
      rw [isNilConst_eq hn]
      exact ⟨_, run_eqnil h ht _ _, rep_bit.2 rfl⟩
    · trivial
  · rw [rep_err] at hx; rw [rep_nilI] at hy; subst hx; subst hy
    split
    · rename_i hn ht
      rw [isNilConst_eq hn]
      exact ⟨_, run_neqnil h ht _ _, rep_bit.2 rfl⟩
    · trivial
  · rw [rep_nilI] at hx hy; subst hx; subst hy
    split
    · rename_i hn ht
      rw [isNilConst_eq hn]
      have := run_eqnil (w := w) h ht (n := 0) E.errT xo
      exact ⟨_, this, rep_bit.2 rfl⟩
    · trivial
  · rw [rep_nilI] at hx hy; subst hx; subst hy
    split
    · rename_i hn ht
      rw [isNilConst_eq hn]
      have := run_neqnil (w := w) h ht (n := 0) E.errT xo
      exact ⟨_, this, rep_bit.2 rfl⟩
    · trivial
  · simp only [Rep, Rep2, Rep1] at hx hy
    obtain ⟨g, cap, sz, n, _, rfl⟩ := hx
    subst hy
    split
    · rename_i ht
      obtain ⟨i, zz, gg⟩ := h.gives ht
      obtain ⟨e, hu⟩ := gg.ptr rfl
      exact ⟨_, by simp [eqGuard, binOp, run_ptrnil hu (.pointer (some ⟨g, _, none⟩)) (.inr ⟨_, rfl⟩)], rep_bit.2 rfl⟩
    · trivial
  · simp only [Rep, Rep2, Rep1] at hx hy
    obtain ⟨b, o, rfl, _⟩ := hx
    subst hy
    split
    · rename_i ht
      obtain ⟨i, zz, gg⟩ := h.gives ht
      obtain ⟨e, hu⟩ := gg.ptr rfl
      exact ⟨_, by simp [eqGuard, binOp, run_ptrnil hu (.pointer (some ⟨b, o, none⟩)) (.inr ⟨_, rfl⟩)], rep_bit.2 rfl⟩
    · trivial
  · simp only [Rep, Rep2, Rep1] at hx hy
    subst hx; subst hy
    split
    · rename_i ht
      obtain ⟨i, zz, gg⟩ := h.gives ht
      obtain ⟨e, hu⟩ := gg.ptr rfl
      exact ⟨_, by simp [eqGuard, binOp, run_ptrnil hu (.pointer none) (.inl rfl)], rep_bit.2 rfl⟩
    · trivial
  · rw [rep_bit] at hx hy; subst hx; subst hy
    split
    · rename_i ht
      exact ⟨_, by simp [eqGuard, run_eql_bool _ t _ _ (tab_bool h ht)], rep_bit.2 rfl⟩
    · trivial
  · rw [rep_bit] at hx hy; subst hx; subst hy
    split
    · rename_i ht
      exact ⟨_, by simp [eqGuard, run_neq_bool _ t _ _ (tab_bool h ht)], rep_bit.2 rfl⟩
    · trivial
  · split
    · rename_i fs s b z ht
      split
      · rename_i c he
        simp only [Rep, Rep2] at hx hy
        obtain ⟨as, rfl, hx⟩ := hx
        obtain ⟨bs, rfl, hy⟩ := hy
        exact ⟨_, run_eqStruct h ht hx hy he xo yo, rep_bit.2 rfl⟩
      · trivial
    · rename_i n e s b z ht
      split
      · rename_i c he
        simp only [Rep, Rep2] at hx hy
        obtain ⟨as, rfl, hx⟩ := hx
        obtain ⟨bs, rfl, hy⟩ := hy
        obtain ⟨k2, h4⟩ := run_eqArr h ht hx hy he
        exact ⟨_, by simp only [Sem.run_bind, run_eqGuard_agg w .eql t xo yo as bs k2, Result.andThen_ok, run_eql_struct, h4], rep_bit.2 rfl⟩
      · trivial
    · trivial
  · split
    · rename_i fs s b z ht
      split
      · rename_i c he
        simp only [Rep, Rep2] at hx hy
        obtain ⟨as, rfl, hx⟩ := hx
        obtain ⟨bs, rfl, hy⟩ := hy
        exact ⟨_, run_neqStruct h ht hx hy he xo yo, rep_bit.2 rfl⟩
      · trivial
    · rename_i n e s b z ht
      split
      · rename_i c he
        simp only [Rep, Rep2] at hx hy
        obtain ⟨as, rfl, hx⟩ := hx
        obtain ⟨bs, rfl, hy⟩ := hy
        obtain ⟨k2, h4⟩ := run_eqArr h ht hx hy he
        exact ⟨_, by simp only [Sem.run_bind, run_eqGuard_agg w .neq t xo yo as bs k2, Result.andThen_ok, run_neq_struct, h4], rep_bit.2 rfl⟩
      · trivial
    · trivial
  · trivial
end Go.Proofs.Ytbhbjmneglkgnaa.AI
