/- Operations that make a row of the call's own. Conditions: none. -/
import Derived.Test.YtbhbjmneglkgnaaAiBuild
import Derived.Laws.MakeOwn
namespace Go.Proofs.Ytbhbjmneglkgnaa.AI
open Go Go.RowKit

variable {P : Program} {E : Env} {T : TypeId} {B : Nat} {w0 : World} {I0 : Nat → Nat → Prop} {ρ ρ' : Nat → Place} {I I' : Nat → Nat → Prop} {m : Nat → Option Row} {w w' : World}

theorem effM_two (m : Nat → Option Row) (d : Nat) (r : Row) (fz : Nat → Nat → Nat) : effM (effM m d none fz) d (some r) fz0 = effM m d (some r) fz := by
  funext id
  by_cases h : id = d
  · subst h; rw [effM_self, effM_self]
  · rw [effM_other _ d (some r) fz0 h, effM_other m d (some r) fz h, effM_none]
    cases m id <;> rfl

theorem below_alloc (w : World) (o : Obj) : Below w.heap.size w (w.alloc o) := (Below.refl _ _).alloc (Nat.le_refl _) _

/-- A new block. -/
theorem MRel.block (M : MRel T B w0 I0 ρ I m w) {d : Nat} (hd : m d = none) {arr : Array Value} {e : TypeId} {cap sz n : Nat} {f : Nat → Nat → AV} {st : Nat} {bx : Bool}
    (hs : arr.size = cap * sz) (hn : n ≤ cap) (hcap : cap ≤ maxLen) (hc : ∀ i j, i < n → j < sz → ∃ c, arr[i * sz + j]? = some c ∧ c.oneCell' = true ∧ Rep1 T I w (plOf bx ρ) (f i j) c) :
    Ext ρ I w (updP ρ d (.at w.heap.size cap sz n)) I (w.alloc (.cells arr e)) ∧
    MRel T B w0 I0 (updP ρ d (.at w.heap.size cap sz n)) I (effM m d (some ⟨e, sz, n, f, st, bx⟩) fz0) (w.alloc (.cells arr e)) := by
  have hb := below_alloc w (.cells arr e)
  have X1 : Ext ρ I w ρ I (w.alloc (.cells arr e)) := Ext.of_below M.ilt hb fun _ _ h => h
  have M1 := M.world hb (I' := I) (fun _ _ h => h) (fun _ _ h => .inl h) (fun b k h => Nat.lt_of_lt_of_le (M.ilt b k h) hb.size)
  have X2 : Ext ρ I (w.alloc (.cells arr e)) (updP ρ d (.at w.heap.size cap sz n)) I (w.alloc (.cells arr e)) := Ext.upd (M.dom d hd)
  refine ⟨X1.trans X2, M1.new_ hd ⟨rfl, rfl, M.hB, hn, hcap, ⟨arr, heap_alloc_new w _, hs, fun i j hi hj => ?_⟩, fun _ k hk => ?_, fun _ k hk => ?_⟩ fun g cap' sz' n' hp id c1 s1 n1 hid => ?_⟩
  · obtain ⟨c, h1, h2, h3⟩ := hc i j hi hj
    exact ⟨c, h1, h2, Rep1.mono ((X1.trans X2).plOf _) _ _ h3⟩
  · exact absurd (M.ilt _ _ hk) (by omega)
  · exact absurd (M.ilt _ _ hk) (by omega)
  · injection hp with e1
    have := M.lt_ hid
    omega

/-- A result with a change of the call's own memory. -/
def SemEff (P : Program) (s : Sem Value) (T : TypeId) (B : Nat) (w0 : World) (I0 : Nat → Nat → Prop) (ρ : Nat → Place) (I : Nat → Nat → Prop) (w : World) (m' : Nat → Option Row) (v : AV) : Prop :=
  ∃ x w' ρ' I', s.run P w = .ok x w' ∧ Ext ρ I w ρ' I' w' ∧ MRel T B w0 I0 ρ' I' m' w' ∧ Rep T I' w' ρ' v x

theorem upd_self (ρ : Nat → Place) (d : Nat) (p : Place) : updP ρ d p d = p := by simp [updP]

theorem box_sound (M : MRel T B w0 I0 ρ I m w) {d : Nat} (hd : m d = none) (e : TypeId) {ts : Nat} {v : AV} {x : Value} (hv : Rep T I w ρ v x) (ho : okPart v = true) (hl : v.cells.length = ts) :
    SemEff P (Instr.box e x) T B w0 I0 ρ I w (effM m d (some ⟨e, ts, 1, fun _ j => nth v.cells j, 0, true⟩) fz0) (.loc d 0) := by
  have hv2 : Rep2 T I w ρ v x := by
    cases v <;> first
      | (simp [okPart] at ho; done)
      | simpa only [Rep] using hv
  have hc := cells_sound ho hv2
  have hlen := hc.length
  obtain ⟨X, M'⟩ := M.block (d := d) hd (arr := x.cells) (e := e) (cap := 1) (sz := ts) (n := 1) (f := fun _ j => nth v.cells j) (st := 0) (bx := true)
    (by rw [← Array.length_toList, ← hlen, hl]; omega) (Nat.le_refl _) (by unfold maxLen; omega) (fun i j hi hj => by
      have hi0 : i = 0 := by omega
      subst hi0
      obtain ⟨c, h1, h2, h3⟩ := hc.nth j (by omega)
      exact ⟨c, by rw [Nat.zero_mul, Nat.zero_add, ← Array.getElem?_toList]; exact h1, h2, h3⟩)
  refine ⟨_, _, _, _, rfl, X, M', ?_⟩
  simp only [Rep, Rep2, Rep1]
  exact ⟨_, _, _, _, upd_self _ _ _, rfl⟩

theorem alloc_sound (M : MRel T B w0 I0 ρ I m w) {d : Nat} (hd : m d = none) {e : TypeId} {td : TD} {i : TypeInfo} {z : Value} (g : TdGives P e td i z) :
    SemEff P (Instr.alloc e true (.tuple #[])) T B w0 I0 ρ I w (effM m d (some ⟨e, td.size, 1, fun _ j => nth td.z j, 0, true⟩) fz0) (.loc d 0) := by
  have hc : RepL T I w ρ td.z z.cells.toList := g.zrep
  have hlen := hc.length
  have hzs := g.zsize
  obtain ⟨X, M'⟩ := M.block (d := d) hd (arr := z.cells) (e := e) (cap := 1) (sz := td.size) (n := 1) (f := fun _ j => nth td.z j) (st := 0) (bx := true)
    (by rw [hzs]; omega) (Nat.le_refl _) (by unfold maxLen; omega) (fun i j hi hj => by
      have hi0 : i = 0 := by omega
      subst hi0
      obtain ⟨c, h1, h2, h3⟩ := hc.nth j (by rw [hlen, Array.length_toList, hzs]; exact hj)
      exact ⟨c, by rw [Nat.zero_mul, Nat.zero_add, ← Array.getElem?_toList]; exact h1, h2, h3⟩)
  refine ⟨.pointer (some ⟨w.heap.size, 0, none⟩), _, _, _, ?_, X, M', ?_⟩
  · simp only [Instr.alloc, Sem.run_bind, g.run_zeroValue, Result.andThen_ok]
    rfl
  · simp only [Rep, Rep2, Rep1]
    exact ⟨_, _, _, _, upd_self _ _ _, rfl⟩

theorem repl_cell {zc : Array Value} {size : Nat} (hs : zc.size = size) {l : List AV} (h : RepL T I w ρ l zc.toList) (j : Nat) (hj : j < size) :
    ∃ c, zc[j]? = some c ∧ c.oneCell' = true ∧ Rep1 T I w ρ (nth l j) c := by
  have hlen := h.length
  obtain ⟨c, h1, h2, h3⟩ := h.nth j (by rw [hlen, Array.length_toList, hs]; exact hj)
  exact ⟨c, by rw [← Array.getElem?_toList]; exact h1, h2, h3⟩

theorem makeSlice_sound (M : MRel T B w0 I0 ρ I m w) {d : Nat} (hd : m d = none) {t e : TypeId} {te : TD} {ie : TypeInfo} {ze : Value} (hu : P.underlying t = some (.slice e)) (ge : TdGives P e te ie ze)
    {kl kc : IntKind} {l c : Int} (h0 : 0 ≤ l) (hlc : l ≤ c) (hb : (te.bytes : Int) * c ≤ 281474976710656) (h63 : c ≤ 9223372036854775807) :
    SemEff P (Instr.makeSlice t (.int kl l) (.int kc c)) T B w0 I0 ρ I w (effM m d (some ⟨e, te.size, l.toNat, fun _ j => nth te.z j, 0, false⟩) fz0) (.own d l.toNat) := by
  have hc : RepL T I w noPl te.z ze.cells.toList := ge.zrep
  have hzs := ge.zsize
  have hrun := run_make (P := P) w t e ie ze hu ge.info ge.zero kl kc l c h0 hlc (by rw [ge.bytes]; exact hb) h63
  rw [ge.size] at hrun
  obtain ⟨X, M'⟩ := M.block (d := d) hd (arr := madeCells ze.cells (c.toNat * te.size)) (e := e) (cap := c.toNat) (sz := te.size) (n := l.toNat) (f := fun _ j => nth te.z j) (st := 0) (bx := false)
    (by rw [size_madeCells]) (by omega) (by unfold maxLen; omega) (fun i j hi hj => by
      obtain ⟨cc, h1, h2, h3⟩ := repl_cell hzs hc j hj
      refine ⟨cc, ?_, h2, h3⟩
      have hlt : i * te.size + j < c.toNat * te.size := row_index (by omega) hj
      simp only [madeCells]
      rw [Array.getElem?_map, Array.getElem?_range]
      simp only [hlt, if_true, Option.map_some]
      have hmod : (i * te.size + j) % ze.cells.size = j := by
        rw [hzs, Nat.add_comm, Nat.add_mul_mod_self_right, Nat.mod_eq_of_lt hj]
      rw [hmod, getElem!_def, h1])
  refine ⟨_, _, _, _, hrun, X, M', ?_⟩
  simp only [Rep, Rep2, Rep1]
  exact .inl ⟨_, _, _, upd_self _ _ _, rfl⟩

theorem buildSlice_sound (M : MRel T B w0 I0 ρ I m w) {d : Nat} (hd : m d = none) {t e : TypeId} {te : TD} {ie : TypeInfo} {ze : Value} (hu : P.underlying t = some (.slice e)) (ge : TdGives P e te ie ze)
    {n : Nat} {ps : List (Nat × AV)} {xs : Array (Nat × Value)} (hok : partsOK (fun i => i * te.size) (fun _ => te.size) n (n * te.size) (ps.map fun p => (p.1, pure1 m p.2)) = true)
    (hp : PartsRep T I w ρ ps xs.toList) (hbig : n * te.size ≤ 16777216) (hz : 0 < te.size) :
    SemEff P (Instr.buildSlice t n xs) T B w0 I0 ρ I w (effM m d (some ⟨e, te.size, n, fun i j => pureC (fillF (fun i => i * te.size) (ps.map fun p => (p.1, pure1 m p.2)) (fun q => nth te.z (q % te.size)) (i * te.size + j)), 0, false⟩)
      (fzArgs (ps.map fun p => p.2))) (.own d n) := by
  have X0 : Ext ρ I w ρ (frzI ρ (fun id => hasIdL id (ps.map fun p => p.2)) I) w := Ext.frz _
  have M0 := M.frz d (fun id => hasIdL id (ps.map fun p => p.2))
  have hd0 : effM m d none (fzB fun id => hasIdL id (ps.map fun p => p.2)) d = none := by rw [effM_none, hd]; rfl
  have hpp : ∀ (ps' : List (Nat × AV)) (xs' : List (Nat × Value)), (∀ id, hasIdL id (ps'.map fun p => p.2) = true → hasIdL id (ps.map fun p => p.2) = true) → PartsRep T I w ρ ps' xs' →
      PartsRep T (frzI ρ (fun id => hasIdL id (ps.map fun p => p.2)) I) w noPl (ps'.map fun p => (p.1, pure1 m p.2)) xs' := by
    intro ps'
    induction ps' with
    | nil =>
      intro xs' _ h
      cases xs' with
      | nil => trivial
      | cons _ _ => exact h.elim
    | cons p r ih =>
      intro xs' hf h
      cases xs' with
      | nil => exact h.elim
      | cons x s =>
        obtain ⟨⟨h1, h2⟩, h3⟩ := h
        exact ⟨⟨h1, pure2_sound M _ p.2 x.2 (fun id hid => hf id (by simp [hasIdL, hid])) h2⟩, ih s (fun id hid => hf id (by simp [hasIdL, hid])) h3⟩
  have hzr : RepL T (frzI ρ (fun id => hasIdL id (ps.map fun p => p.2)) I) w noPl te.z ze.cells.toList := ge.zrep
  have hzs := ge.zsize
  obtain ⟨out, f1, f2, f3⟩ := fill_sound (T := T) (I := frzI ρ (fun id => hasIdL id (ps.map fun p => p.2)) I) (w := w) (ρ := noPl) (fun i => i * te.size) (fun _ => te.size) n (n * te.size) (fun i => some (i * te.size, te.size)) (fun _ _ => rfl)
    _ xs.toList (fun q => nth te.z (q % te.size)) ((Array.range (n * te.size)).map (ze.cells[· % ze.cells.size]!)) hok (hpp ps xs.toList (fun _ h => h) hp) (by simp) (fun j hj => by
      obtain ⟨cc, h1, h2, h3⟩ := repl_cell hzs hzr (j % te.size) (Nat.mod_lt _ hz)
      refine ⟨cc, ?_, h2, h3⟩
      rw [Array.getElem?_map, Array.getElem?_range]
      simp only [hj, if_true, Option.map_some]
      rw [hzs, getElem!_def, h1])
  obtain ⟨X, M'⟩ := M0.block (d := d) hd0 (arr := out) (e := e) (cap := n) (sz := te.size) (n := n) (f := fun i j => pureC (fillF (fun i => i * te.size) (ps.map fun p => (p.1, pure1 m p.2)) (fun q => nth te.z (q % te.size)) (i * te.size + j))) (st := 0) (bx := false)
    f2 (Nat.le_refl _) (by unfold maxLen; have : n * 1 ≤ n * te.size := Nat.mul_le_mul_left _ hz
                           omega) (fun i j hi hj => by
      obtain ⟨c, h1, h2, h3⟩ := f3 (i * te.size + j) (row_index hi hj)
      exact ⟨c, h1, h2, pureC_sound h3⟩)
  rw [effM_two] at M'
  refine ⟨.slice (some ⟨w.heap.size, 0, none⟩) n n, _, _, _, ?_, X0.trans X, M', ?_⟩
  · simp only [Instr.buildSlice, Sem.run_bind, run_underlying hu, Result.andThen_ok, ge.run_sizeOf]
    rw [if_neg (by omega)]
    by_cases hn : n * te.size = 0
    · have hr : Array.range (n * te.size) = #[] := by rw [hn]; rfl
      rw [hr] at f1
      simp only [hn, if_true, Sem.run_pure, Result.andThen_ok, Sem.run_bind]
      simp only [show Array.range 0 = #[] from rfl, Array.map_empty] at f1 ⊢
      rw [f1]
      rfl
    · simp only [hn, if_false, Sem.run_bind, ge.run_zeroValue, Result.andThen_ok, Sem.run_pure]
      rw [f1]
      rfl
  · simp only [Rep, Rep2, Rep1]
    exact .inl ⟨_, _, _, upd_self _ _ _, rfl⟩
end Go.Proofs.Ytbhbjmneglkgnaa.AI
