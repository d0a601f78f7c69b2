/- Every operation of the evaluator is the model's: the theorem. Conditions: none. -/
import Derived.Test.YtbhbjmneglkgnaaAiAll
namespace Go.Proofs.Ytbhbjmneglkgnaa.AI
open Go Go.RowKit

variable {P : Program} {E : Env} {T : TypeId} {B : Nat} {w0 : World} {I0 : Nat → Nat → Prop} {ρ ρ' : Nat → Place} {I I' : Nat → Nat → Prop} {m : Nat → Option Row} {w w' : World}

theorem run_value' {s : Sem Next} {x : Value} {w' : World} (h : s.run P w = .ok (.value x) w') : s.run P w = .ok (.value x) w' := h

theorem lift_val {s : Sem Value} {r : R0} {d : Nat} (h : ValOK T I w ρ P s r) (hr : ∀ p v k n f, r ≠ .eff p v k n f) : OpOK P (do pure (Next.value (← s))) T B w0 I0 ρ I w m d r := OpOK.of_val h hr

theorem okPart_of_cell {v : AV} (h : okCell v = true) : okPart v = true := by cases v <;> simp_all [okCell, okPart]
theorem okPartsL_tups : ∀ {l : List AV}, okPartsL l = true → noTups l = true
  | [], _ => rfl
  | v :: r, h => by
    simp only [okPartsL, Bool.and_eq_true] at h
    simp only [noTups, okPartsL_tups h.2, Bool.and_true]
    cases v <;> first
      | rfl
      | cases h.1
theorem okCells_mem {ev : Operand → AV} : ∀ {l : List Operand}, okCells (l.map ev) = true → ∀ x ∈ l, okCell (ev x) = true
  | [], _, _, h => by simp at h
  | y :: r, h, x, hx => by
    simp only [List.map_cons, okCells, Bool.and_eq_true] at h
    rcases List.mem_cons.1 hx with e | e
    · subst e; exact h.1
    · exact okCells_mem h.2 x e

theorem zero_int {t : TypeId} {s b : Nat} {i : TypeInfo} {z : Value} (g : TdGives P t ⟨.int .i64, s, b, [.int .i64 0]⟩ i z) : z = .int .i64 0 := by
  have h1 := g.zeq
  have h2 := g.zagg
  cases z <;> simp_all [Value.cells, zeqL, zeqB, isAggV, TDesc.agg]

theorem repL_map {ev : Operand → AV} {evc : Operand → Value} (hev : ∀ x, Rep T I w ρ (ev x) (evc x)) : ∀ l : List Operand, (∀ x ∈ l, okCell (ev x) = true) → RepL T I w ρ (l.map ev) (l.map evc)
  | [], _ => by simp [RepL]
  | x :: r, h => by
    simp only [List.map_cons, RepL]
    have h1 := h x (by simp)
    have h2 : Rep1 T I w ρ (ev x) (evc x) := by
      have := hev x
      revert h1 this
      cases ev x <;> simp [okCell, Rep, Rep2]
    exact ⟨⟨oneCell_of (okPart_of_cell h1) h2, h2⟩, repL_map hev r fun y hy => h y (by simp [hy])⟩

theorem OpOK.mk {s : Sem Value} {d : Nat} {p : Option Prop} {v : AV} {new : Option Row} {fz : Nat → Nat → Nat}
    (H : (∀ q, p = some q → q) → (new.isSome = true → m d = none) → SemEff P s T B w0 I0 ρ I w (effM m d new fz) v) :
    OpOK P (do pure (Next.value (← s))) T B w0 I0 ρ I w m d (.eff p v none new fz) :=
  OpOK.of (r := .eff p v none new fz) fun hp hn => ⟨H hp hn, fun b hb => by cases hb⟩

theorem op_buildSlice (h : TabOK P E) (M : MRel E.errT B w0 I0 ρ I m w) (a : Act) {ev : Operand → AV} (hev : ∀ x, Rep E.errT I w ρ (ev x) (a.eval x)) (t : TypeId) (n : Nat) (ps : Array (Nat × Operand)) (d : Nat) :
    OpOK P (do pure (Next.value (← Instr.buildSlice t n (ps.map fun (i, x) => (i, a.eval x))))) E.errT B w0 I0 ρ I w m d (aop E (.buildSlice t n ps) d ev m) := by
  simp only [aop]
  split
  · rename_i e _ _ _ ht
    have hu := tab_slice h ht
    split
    · rename_i desc ts tb z he
      obtain ⟨ie, ze, ge⟩ := h.gives he
      split
      · rename_i c1 c2 c3
        have c2' : n * ts ≤ 16777216 := Nat.le_of_ble_eq_true c2
        have c3' : 0 < ts := by simpa using c3
        have hno := noTup_of_parts (g := pure1 m) (fun v hv => noTup_pure hv) ps.toList c1
        have hp : PartsRep E.errT I w ρ (ps.toList.map fun p => (p.1, ev p.2)) (ps.map fun (i, x) => (i, a.eval x)).toList := by
          have e1 : (ps.map fun (i, x) => (i, a.eval x)).toList = ps.toList.map fun p => (p.1, a.eval p.2) := by simp
          rw [e1]
          exact partsRep_map (ev := ev) (evc := a.eval) id ps.toList fun p hp => rep2_of (hno p hp) (hev p.2)
        have e2 : (ps.toList.map fun p => (p.1, pure1 m (ev p.2))) = ((ps.toList.map fun p => (p.1, ev p.2)).map fun p => (p.1, pure1 m p.2)) := by simp
        have e3 : (ps.toList.map fun p => ev p.2) = ((ps.toList.map fun p => (p.1, ev p.2)).map fun p => p.2) := by simp
        rw [e2] at c1 ⊢
        rw [e3]
        exact OpOK.mk fun _ hd => buildSlice_sound M (hd rfl) hu ge c1 hp c2' c3'
      · trivial
    · trivial
  · trivial

set_option maxHeartbeats 1000000 in
theorem aop_sound (h : TabOK P E) (sp : SpecOK P E) (M : MRel E.errT B w0 I0 ρ I m w) (a : Act) {ev : Operand → AV} (hev : ∀ x, Rep E.errT I w ρ (ev x) (a.eval x)) (o : Oper) (d : Nat) :
    OpOK P (execOp a.eval o) E.errT B w0 I0 ρ I w m d (aop E o.op d ev m) := by
  obtain ⟨dst, op, ty, pos, after, guard⟩ := o
  cases op with
  | move x => exact ⟨_, rfl, hev x⟩
  | assign x => exact ⟨_, rfl, hev x⟩
  | pick c x y =>
    simp only [aop]
    split
    · rename_i v hc
      have hcr := hev c
      rw [hc, rep_bit] at hcr
      refine ⟨if v then a.eval x else a.eval y, ?_, ?_⟩
      · simp [execOp, hcr, asBool]
      · cases v
        · exact hev y
        · exact hev x
    · trivial
  | alloc e =>
    simp only [aop]
    split
    · rename_i desc ts tb z he
      obtain ⟨i, zv, g⟩ := h.gives he
      exact OpOK.mk fun _ hd => alloc_sound M (hd rfl) g
    · trivial
  | box e x =>
    simp only [aop]
    split
    · rename_i desc ts tb z he
      split
      · rename_i hok
        simp only [Bool.and_eq_true] at hok
        exact OpOK.mk fun _ hd => box_sound M (hd rfl) e (hev x) hok.1 (Nat.eq_of_beq_eq_true hok.2)
      · trivial
    · trivial
  | build t ps =>
    exact OpOK.of_val (build_sound h t ps hev d) (fun p v k n f e => by
      simp only [aop] at e
      split at e
      · split at e <;> cases e
      · split at e
        · split at e <;> cases e
        · cases e
      · cases e)
  | buildSlice t n ps => exact op_buildSlice h M a hev t n ps d
  | insert t x y z => trivial
  | load t x => exact OpOK.of_val (valOK_load h M t _ _ (hev x) ev x rfl d) (fun p v k n f e => by
      simp only [aop, aload] at e
      repeat' (split at e)
      all_goals cases e)
  | store t x y => trivial
  | ready g => trivial
  | waits g => trivial
  | nilCheck x =>
    simp only [aop]
    have hx := hev x
    split
    · rename_i id j hxe
      rw [hxe] at hx
      have hx' := hx
      simp only [Rep, Rep2, Rep1] at hx'
      obtain ⟨g, cap, sz, n, hp, hv⟩ := hx'
      exact ⟨_, by simp [execOp, hv], hx⟩
    · rename_i id i j k hxe
      rw [hxe] at hx
      have hx' := hx
      simp only [Rep, Rep2, Rep1] at hx'
      obtain ⟨g, cap, sz, n, hp, _, _, hv⟩ := hx'
      exact ⟨_, by simp [execOp, hv], hx⟩
    · rename_i k gf hxe
      rw [hxe] at hx
      have hx' := hx
      simp only [Rep, Rep2, Rep1] at hx'
      obtain ⟨b, o, hv, _⟩ := hx'
      exact ⟨_, by simp [execOp, hv], hx⟩
    · trivial
  | binOp bop t x y yt =>
    exact OpOK.of_val (abin_sound h bop t x y (ev x) (ev y) (a.eval x) (a.eval y) (hev x) (hev y)) (fun p v k n f e => by
      simp only [aop, abin] at e
      repeat' (split at e)
      all_goals cases e)
  | unOp uop t x =>
    have hx := hev x
    cases uop with
    | not =>
      simp only [aop]
      split
      · rename_i b hxe
        rw [hxe, rep_bit] at hx
        exact ⟨.bool (!b), by simp [execOp, hx, Op.unary], rep_bit.2 rfl⟩
      · trivial
    | neg =>
      simp only [aop]
      split
      · rename_i n hxe
        rw [hxe, rep_int] at hx
        exact ⟨.int .i64 (wr (0 - n)), by simp [execOp, hx, Op.unary, Op.intArith, wr], rep_int.2 rfl⟩
      · trivial
    | xor => trivial
    | plus => trivial
  | convert src dst' x =>
    simp only [aop]
    have hx := hev x
    split
    · rename_i td k s b z k' n hs hd hxe
      rw [hxe, rep_int] at hx
      obtain ⟨i1, z1, g1⟩ := h.gives hs
      obtain ⟨i2, z2, g2⟩ := h.gives hd
      obtain ⟨du, hu1, _⟩ := g1.under
      have hu2 := g2.int rfl
      refine ⟨.int k (k.wrap n), ?_, rep_int.2 rfl⟩
      have hr : (convert src dst' (.int k' n)).run P w = .ok (.int k (k.wrap n)) w := by
        unfold convert
        simp only [Sem.run_bind, run_underlying hu1, run_underlying hu2, Result.andThen_ok]
        cases du <;> rfl
      simp [execOp, hx, hr]
    · trivial
  | sliceToArrayPointer t x => trivial
  | makeInterface t x =>
    simp only [aop]
    have hx := hev x
    split
    · rename_i n k s b z ht hxe htd
      have ht' : t = E.errT := Nat.eq_of_beq_eq_true ht
      rw [hxe, rep_int] at hx
      obtain ⟨i1, z1, g1⟩ := h.gives htd
      have hu := g1.int rfl
      intro hn
      refine ⟨.iface t (.int .i64 n), ?_, ?_⟩
      · simp [execOp, hx, Instr.makeInterface, run_underlying hu]
      · rw [rep_err]
        rcases errV_cases E.errT n with ⟨h0, _⟩ | ⟨_, he⟩
        · exact absurd h0 hn
        · rw [he, ht']
    · trivial
  | makeFunc fn first caps =>
    cases fn with
    | func f =>
      simp only [aop]
      split
      · rename_i hok
        simp only [Bool.and_eq_true] at hok
        refine ⟨.func (.func f) (first.map a.eval) (caps.map a.eval), by simp [execOp, Instr.makeFunc], ?_⟩
        simp only [Rep, Rep2, Rep1]
        exact ⟨_, _, rfl, by rw [Array.toList_map]; exact (repM_iff _ _).2 (rep2L_map hev _ (okPartsL_tups hok.1)), by rw [Array.toList_map]; exact (repM_iff _ _).2 (rep2L_map hev _ (okPartsL_tups hok.2))⟩
      · trivial
    | _ => trivial
  | makeMap t r => trivial
  | makeChan t s => trivial
  | makeSlice t l c =>
    simp only [aop]
    have hl := hev l
    have hc := hev c
    split
    · rename_i e s b z kl n kc k ht hle hce
      rw [hle, rep_int] at hl
      rw [hce, rep_int] at hc
      have hu := tab_slice h ht
      split
      · rename_i desc ts tb tz he
        obtain ⟨ie, ze, ge⟩ := h.gives he
        split
        · rename_i hts
          refine OpOK.mk fun hp hd => ?_
          obtain ⟨h0, h1, h2, h3⟩ := hp _ rfl
          rw [hl, hc]
          exact makeSlice_sound M (hd rfl) hu ge h0 h1 h2 h3
        · trivial
      · trivial
    · trivial
  | slice t x lo hi mx =>
    cases mx with
    | some _ => trivial
    | none =>
      exact OpOK.of (aslice_sound h M d t (ev x) (a.eval x) (lo.map ev) (hi.map ev) (lo.map a.eval) (hi.map a.eval) (hev x)
        (fun y hy => by cases lo with
          | none => cases hy
          | some l => simp at hy; subst hy; exact ⟨_, rfl, hev l⟩)
        (fun hy => by cases lo with
          | none => rfl
          | some l => simp at hy)
        (fun y hy => by cases hi with
          | none => cases hy
          | some l => simp at hy; subst hy; exact ⟨_, rfl, hev l⟩)
        (fun hy => by cases hi with
          | none => rfl
          | some l => simp at hy))
  | fieldAddr t x f => exact OpOK.of_val (valOK_fieldAddr h t f _ _ (hev x) ev x rfl d) (fun p v k n f' e => by
      simp only [aop] at e
      repeat' (split at e)
      all_goals cases e)
  | field t x f =>
    simp only [aop]
    have hx := hev x
    split
    · rename_i fs s b z ht
      split
      · rename_i o sz ft cs hf hl hxe
        rw [hxe] at hx
        simp only [Rep, Rep2] at hx
        obtain ⟨arr, hv, hrl⟩ := hx
        split
        · rename_i td he ho
          split
          · rename_i hs
            have hs' : td.size = sz := Nat.eq_of_beq_eq_true hs
            have ho' : o + td.size ≤ cs.length := by rw [hs']; exact Nat.le_of_ble_eq_true ho
            have hf' : f < fs.length := by simpa using hf
            obtain ⟨i, zv, g⟩ := h.gives ht
            obtain ⟨fields, hu, hm⟩ := g.struct rfl
            obtain ⟨hlen, hk⟩ := mapM_look hm
            obtain ⟨fl, fi, hfl, hfi, hlk⟩ := hk f hf'
            rw [hl] at hlk
            simp only [Prod.mk.injEq] at hlk
            obtain ⟨rfl, rfl, rfl⟩ := hlk
            obtain ⟨ie, ze, ge⟩ := h.gives he
            obtain ⟨v, h1, h2⟩ := part_sound (P := P) ge hrl ho'
            have hfl' : fields[f]? = some fl := by rw [← Array.getElem?_toList]; exact hfl
            refine ⟨v, ?_, h2⟩
            simp [execOp, hv, Instr.field, run_underlying hu, hfl', asAgg, h1]
          · trivial
        · trivial
      · trivial
    · trivial
  | indexAddr t x ix => exact OpOK.of_val (aindex_sound h M t _ _ _ _ (constIx ix) (hev x) (hev ix)) (fun p v k n f e => by
      simp only [aop, aindex] at e
      repeat' (split at e)
      all_goals cases e)
  | index t x ix =>
    simp only [aop]
    have hx := hev x
    have hix := hev ix
    split
    · rename_i n e s b z cs k i ht hxe hie
      rw [hxe] at hx
      rw [hie, rep_int] at hix
      simp only [Rep, Rep2] at hx
      obtain ⟨arr, hv, hrl⟩ := hx
      have hu := tab_array h ht
      split
      · rename_i te he
        split
        · rename_i hs
          have hs' : cs.length = n * te.size := Nat.eq_of_beq_eq_true hs
          rintro ⟨h0, h1⟩
          obtain ⟨ie, ze, ge⟩ := h.gives he
          have h5 : (i.toNat + 1) * te.size ≤ n * te.size := Nat.mul_le_mul_right _ (by omega)
          rw [Nat.add_mul] at h5
          obtain ⟨v, r1, r2⟩ := part_sound (P := P) ge hrl (o := i.toNat * te.size) (by omega)
          refine ⟨v, ?_, r2⟩
          simp [execOp, hv, hix, Instr.index, asIntOf, run_underlying hu, h0, h1, ge.run_sizeOf, r1]
        · trivial
      · trivial
    · trivial
  | lookup t x ix ok => trivial
  | mapUpdate t x y z => trivial
  | mapEntry t x y => trivial
  | entryStore t x y z => trivial
  | range t x => trivial
  | next x s => trivial
  | entry x => trivial
  | typeAssert x xt at_ ok =>
    cases ok with
    | false => trivial
    | true =>
      simp only [aop]
      have hx := hev x
      split
      · rename_i s b z n s' b' hxt hat hxe hta
        have hat' : at_ = E.errT := Nat.eq_of_beq_eq_true hat
        rw [hxe, rep_err] at hx
        obtain ⟨i2, z2, g2⟩ := h.gives hta
        have hu := g2.int rfl
        have hzr : ∃ v, (zeroValue at_).run P w = .ok v w ∧ v = .int .i64 0 := by
          refine ⟨z2, g2.run_zeroValue w, ?_⟩
          exact zero_int g2
        obtain ⟨zv, hz1, rfl⟩ := hzr
        rcases errV_cases E.errT n with ⟨rfl, he⟩ | ⟨h0, he⟩
        · refine ⟨.tuple #[.int .i64 0, .bool false], ?_, ?_⟩
          · simp [execOp, hx, he, Instr.typeAssert, run_underlying hu, hz1]
          · simp [Rep, Rep2L, Rep2, Rep1]
        · refine ⟨.tuple #[.int .i64 n, .bool true], ?_, ?_⟩
          · rw [hat'] at hu
            simp [execOp, hx, he, Instr.typeAssert, run_underlying hu, hat']
          · simp [Rep, Rep2L, Rep2, Rep1, h0]
      · rename_i s b z s' b' hxt hat hxe hta
        rw [hxe, rep_nilI] at hx
        obtain ⟨i2, z2, g2⟩ := h.gives hta
        have hu := g2.int rfl
        have hz1 := g2.run_zeroValue w
        have hz2 : z2 = .int .i64 0 := zero_int g2
        subst hz2
        refine ⟨.tuple #[.int .i64 0, .bool false], ?_, ?_⟩
        · simp [execOp, hx, Instr.typeAssert, run_underlying hu, hz1]
        · simp [Rep, Rep2L, Rep2, Rep1]
      · trivial
  | extract x i =>
    simp only [aop]
    have hx := hev x
    split
    · rename_i vs hxe
      rw [hxe] at hx
      simp only [Rep] at hx
      obtain ⟨arr, hv, hl⟩ := hx
      split
      · rename_i hi
        obtain ⟨c, h1, h2⟩ := hl.nth i (by simpa using hi)
        rw [Array.getElem?_toList] at h1
        exact ⟨c, by simp [execOp, hv, Instr.extract, h1], .of2 h2⟩
      · trivial
    · trivial
  | call c => exact acall_sound h sp M hev c ty d
  | go c => trivial
  | defer c => trivial
  | panic x => trivial
  | send x y => trivial
  | recv t x ok => trivial
  | select cs b => trivial
end Go.Proofs.Ytbhbjmneglkgnaa.AI
