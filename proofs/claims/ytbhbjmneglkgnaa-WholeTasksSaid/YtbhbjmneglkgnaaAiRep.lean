/- What the abstract values stand for: a value in memory, a state, a world. Conditions: none (definitions and their first laws). -/
import Derived.Test.YtbhbjmneglkgnaaAiDefs
namespace Go.Proofs.Ytbhbjmneglkgnaa.AI
open Go Go.RowKit

/-- No row. -/
def noPl : Nat → Place := fun _ => .no

def errV (T : TypeId) (n : Int) : Value := if n = 0 then .nilIface else .iface T (.int .i64 n)

mutual
/-- One cell's value (or a function's). 'I b k': cell k of block b never turns any more. -/
def Rep1 (T : TypeId) (I : Nat → Nat → Prop) (w : World) (ρ : Nat → Place) : AV → Value → Prop
  | .bad, _ => True
  | .int k n, v => v = .int k n
  | .bit b, v => v = .bool b
  | .str s, v => v = .string s
  | .nilI, v => v = .nilIface
  | .err n, v => v = errV T n
  | .nilP, v => v = .pointer none
  | .nilS, v => v = .slice none 0 0
  | .nilF, v => v = .nilFunc
  | .clo f a b, v => ∃ xs ys : Array Value, v = .func (.func f) xs ys ∧ RepM T I w ρ a xs.toList ∧ RepM T I w ρ b ys.toList
  | .sl sz n f, v => ∃ a cap, v = .slice a n cap ∧ n ≤ cap ∧ cap ≤ maxLen ∧ (0 < n → ∃ b o, a = some ⟨b, o, none⟩ ∧
      ∀ i j, i < n → j < sz → I b (o + (i * sz + j)) ∧ ∃ c, w.cell? ⟨b, o + (i * sz + j), none⟩ = some c ∧ c.oneCell' = true ∧ Rep1 T I w noPl (f i j) c)
  | .iref m g, v => ∃ b o, v = .pointer (some ⟨b, o, none⟩) ∧
      ∀ j, j < m → I b (o + j) ∧ ∃ c, w.cell? ⟨b, o + j, none⟩ = some c ∧ c.oneCell' = true ∧ Rep1 T I w noPl (g j) c
  | .loc id j, v => ∃ g cap sz n, ρ id = .at g cap sz n ∧ v = .pointer (some ⟨g, j, none⟩)
  | .elt id i j k, v => ∃ g cap sz n, ρ id = .at g cap sz n ∧ i < n ∧ j + k ≤ sz ∧ v = .pointer (some ⟨g, i * sz + j, none⟩)
  | .own id n, v => (∃ g cap sz, ρ id = .at g cap sz n ∧ v = .slice (some ⟨g, 0, none⟩) n cap) ∨ (∃ sz, ρ id = .nil sz ∧ n = 0 ∧ v = .slice none 0 0)
  | .qs id n f, v => (∃ g cap e, ρ id = .at g cap 1 e ∧ n ≤ e ∧ e ≤ cap ∧ cap ≤ maxLen ∧ ∃ x, v = .slice (some ⟨g, x, none⟩) n (cap + n - e) ∧ (e < cap ∨ 0 < n → x = e - n) ∧
      ∀ i, i < n → I g (e - n + i) ∧ ∃ c, w.cell? ⟨g, e - n + i, none⟩ = some c ∧ c.oneCell' = true ∧ Rep1 T I w noPl (f i 0) c) ∨ (∃ sz, ρ id = .nil sz ∧ n = 0 ∧ v = .slice none 0 0)
  | .agg _, _ => False
  | .tup _, _ => False
def RepL (T : TypeId) (I : Nat → Nat → Prop) (w : World) (ρ : Nat → Place) : List AV → List Value → Prop
  | [], [] => True
  | a :: r, v :: s => (v.oneCell' = true ∧ Rep1 T I w ρ a v) ∧ RepL T I w ρ r s
  | _, _ => False
/-- What a closure holds: cells and aggregates. -/
def RepM (T : TypeId) (I : Nat → Nat → Prop) (w : World) (ρ : Nat → Place) : List AV → List Value → Prop
  | [], [] => True
  | .agg cs :: r, v :: s => (∃ arr : Array Value, v = .agg arr ∧ RepL T I w ρ cs arr.toList) ∧ RepM T I w ρ r s
  | a :: r, v :: s => Rep1 T I w ρ a v ∧ RepM T I w ρ r s
  | _, _ => False
end

/-- A cell's value or an aggregate. -/
def Rep2 (T : TypeId) (I : Nat → Nat → Prop) (w : World) (ρ : Nat → Place) : AV → Value → Prop
  | .agg cs, v => ∃ arr : Array Value, v = .agg arr ∧ RepL T I w ρ cs arr.toList
  | a, v => Rep1 T I w ρ a v
def Rep2L (T : TypeId) (I : Nat → Nat → Prop) (w : World) (ρ : Nat → Place) : List AV → List Value → Prop
  | [], [] => True
  | a :: r, v :: s => Rep2 T I w ρ a v ∧ Rep2L T I w ρ r s
  | _, _ => False
/-- Any value. -/
def Rep (T : TypeId) (I : Nat → Nat → Prop) (w : World) (ρ : Nat → Place) : AV → Value → Prop
  | .tup vs, v => ∃ arr : Array Value, v = .tuple arr ∧ Rep2L T I w ρ vs arr.toList
  | a, v => Rep2 T I w ρ a v

/-- The world has gone on; what is known stays known. -/
structure Ext (ρ : Nat → Place) (I : Nat → Nat → Prop) (w : World) (ρ' : Nat → Place) (I' : Nat → Nat → Prop) (w' : World) : Prop where
  pl : ∀ id, ρ id ≠ .no → ρ' id = ρ id
  im : ∀ b k, I b k → I' b k
  ce : ∀ b k, I b k → w'.cell? ⟨b, k, none⟩ = w.cell? ⟨b, k, none⟩

variable {T : TypeId} {ρ ρ' ρ'' : Nat → Place} {I I' I'' : Nat → Nat → Prop} {w w' w'' : World}

/-- The same, for these names alone. -/
structure ExtK (S : List Nat) (ρ : Nat → Place) (I : Nat → Nat → Prop) (w : World) (ρ' : Nat → Place) (I' : Nat → Nat → Prop) (w' : World) : Prop where
  pl : ∀ id, id ∈ S → ρ id ≠ .no → ρ' id = ρ id
  im : ∀ b k, I b k → I' b k
  ce : ∀ b k, I b k → w'.cell? ⟨b, k, none⟩ = w.cell? ⟨b, k, none⟩
theorem Ext.refl : Ext ρ I w ρ I w := ⟨fun _ _ => rfl, fun _ _ h => h, fun _ _ _ => rfl⟩
theorem ExtK.of {S : List Nat} (h : Ext ρ I w ρ' I' w') : ExtK S ρ I w ρ' I' w' := ⟨fun id _ => h.pl id, h.im, h.ce⟩
theorem ExtK.trans {S S' : List Nat} (h : ExtK S ρ I w ρ' I' w') (k : ExtK S' ρ' I' w' ρ'' I'' w'') (hs : ∀ id, id ∈ S → id ∈ S') : ExtK S ρ I w ρ'' I'' w'' :=
  ⟨fun id hm hn => by rw [k.pl id (hs id hm) (by rw [h.pl id hm hn]; exact hn), h.pl id hm hn], fun b j hb => k.im b j (h.im b j hb),
   fun b j hb => (k.ce b j (h.im b j hb)).trans (h.ce b j hb)⟩
theorem Ext.trans (h : Ext ρ I w ρ' I' w') (k : Ext ρ' I' w' ρ'' I'' w'') : Ext ρ I w ρ'' I'' w'' :=
  ⟨fun id hn => by rw [k.pl id (by rw [h.pl id hn]; exact hn), h.pl id hn], fun b j hb => k.im b j (h.im b j hb),
   fun b j hb => (k.ce b j (h.im b j hb)).trans (h.ce b j hb)⟩

theorem Ext.none_ (h : Ext ρ I w ρ' I' w') : Ext noPl I w noPl I' w' := ⟨fun _ h => absurd rfl h, h.im, h.ce⟩

mutual
theorem Rep1.mono {ρ ρ' : Nat → Place} (h : Ext ρ I w ρ' I' w') : ∀ (a : AV) (v : Value), Rep1 T I w ρ a v → Rep1 T I' w' ρ' a v
  | .bad, _, _ => by simp [Rep1]
  | .int _ _, _, hr => by simpa [Rep1] using hr
  | .bit _, _, hr => by simpa [Rep1] using hr
  | .str _, _, hr => by simpa [Rep1] using hr
  | .nilI, _, hr => by simpa [Rep1] using hr
  | .err _, _, hr => by simpa [Rep1] using hr
  | .nilP, _, hr => by simpa [Rep1] using hr
  | .nilS, _, hr => by simpa [Rep1] using hr
  | .nilF, _, hr => by simpa [Rep1] using hr
  | .clo f a b, v, hr => by
    simp only [Rep1] at hr ⊢
    obtain ⟨xs, ys, hv, h1, h2⟩ := hr
    exact ⟨xs, ys, hv, RepM.mono h a _ h1, RepM.mono h b _ h2⟩
  | .sl sz n f, v, hr => by
    simp only [Rep1] at hr ⊢
    obtain ⟨a, cap, hv, hn, hc, hz⟩ := hr
    refine ⟨a, cap, hv, hn, hc, fun hp => ?_⟩
    obtain ⟨b, o, ha, hz⟩ := hz hp
    refine ⟨b, o, ha, fun i j hi hj => ?_⟩
    obtain ⟨hI, c, hc, h1, hrep⟩ := hz i j hi hj
    exact ⟨h.im _ _ hI, c, (h.ce _ _ hI).trans hc, h1, Rep1.mono h.none_ (f i j) c hrep⟩
  | .iref m g, v, hr => by
    simp only [Rep1] at hr ⊢
    obtain ⟨b, o, hv, hz⟩ := hr
    refine ⟨b, o, hv, fun j hj => ?_⟩
    obtain ⟨hI, c, hc, h1, hrep⟩ := hz j hj
    exact ⟨h.im _ _ hI, c, (h.ce _ _ hI).trans hc, h1, Rep1.mono h.none_ (g j) c hrep⟩
  | .loc id j, v, hr => by
    simp only [Rep1] at hr ⊢
    obtain ⟨g, cap, sz, n, hp, hv⟩ := hr
    exact ⟨g, cap, sz, n, (h.pl id (by rw [hp]; simp)).trans hp, hv⟩
  | .elt id i j k, v, hr => by
    simp only [Rep1] at hr ⊢
    obtain ⟨g, cap, sz, n, hp, hv⟩ := hr
    exact ⟨g, cap, sz, n, (h.pl id (by rw [hp]; simp)).trans hp, hv⟩
  | .own id n, v, hr => by
    simp only [Rep1] at hr ⊢
    rcases hr with ⟨g, cap, sz, hp, hv⟩ | ⟨sz, hp, hv⟩
    · exact .inl ⟨g, cap, sz, (h.pl id (by rw [hp]; simp)).trans hp, hv⟩
    · exact .inr ⟨sz, (h.pl id (by rw [hp]; simp)).trans hp, hv⟩
  | .qs id n f, v, hr => by
    simp only [Rep1] at hr ⊢
    rcases hr with ⟨g, cap, e, hp, h1, h2, h3, x, hv, hx, hz⟩ | ⟨sz, hp, hv⟩
    · refine .inl ⟨g, cap, e, (h.pl id (by rw [hp]; simp)).trans hp, h1, h2, h3, x, hv, hx, fun i hi => ?_⟩
      obtain ⟨hI, c, hc, h1, hrep⟩ := hz i hi
      exact ⟨h.im _ _ hI, c, (h.ce _ _ hI).trans hc, h1, Rep1.mono h.none_ (f i 0) c hrep⟩
    · exact .inr ⟨sz, (h.pl id (by rw [hp]; simp)).trans hp, hv⟩
  | .agg _, _, hr => by simp only [Rep1] at hr
  | .tup _, _, hr => by simp only [Rep1] at hr
theorem RepL.mono {ρ ρ' : Nat → Place} (h : Ext ρ I w ρ' I' w') : ∀ (l : List AV) (vs : List Value), RepL T I w ρ l vs → RepL T I' w' ρ' l vs
  | [], [], _ => by simp [RepL]
  | a :: r, v :: s, hr => by
    simp only [RepL] at hr ⊢
    exact ⟨⟨hr.1.1, Rep1.mono h a v hr.1.2⟩, RepL.mono h r s hr.2⟩
  | [], _ :: _, hr => by simp only [RepL] at hr
  | _ :: _, [], hr => by simp only [RepL] at hr
theorem RepM.mono {ρ ρ' : Nat → Place} (h : Ext ρ I w ρ' I' w') : ∀ (l : List AV) (vs : List Value), RepM T I w ρ l vs → RepM T I' w' ρ' l vs
  | [], [], _ => by simp [RepM]
  | .agg cs :: r, v :: s, hr => by
    simp only [RepM] at hr ⊢
    obtain ⟨⟨arr, hv, h1⟩, h2⟩ := hr
    exact ⟨⟨arr, hv, RepL.mono h cs _ h1⟩, RepM.mono h r s h2⟩
  | .bad :: r, v :: s, hr => by simp only [RepM] at hr ⊢; exact ⟨Rep1.mono h _ v hr.1, RepM.mono h r s hr.2⟩
  | .int _ _ :: r, v :: s, hr => by simp only [RepM] at hr ⊢; exact ⟨Rep1.mono h _ v hr.1, RepM.mono h r s hr.2⟩
  | .bit _ :: r, v :: s, hr => by simp only [RepM] at hr ⊢; exact ⟨Rep1.mono h _ v hr.1, RepM.mono h r s hr.2⟩
  | .str _ :: r, v :: s, hr => by simp only [RepM] at hr ⊢; exact ⟨Rep1.mono h _ v hr.1, RepM.mono h r s hr.2⟩
  | .nilI :: r, v :: s, hr => by simp only [RepM] at hr ⊢; exact ⟨Rep1.mono h _ v hr.1, RepM.mono h r s hr.2⟩
  | .err _ :: r, v :: s, hr => by simp only [RepM] at hr ⊢; exact ⟨Rep1.mono h _ v hr.1, RepM.mono h r s hr.2⟩
  | .nilP :: r, v :: s, hr => by simp only [RepM] at hr ⊢; exact ⟨Rep1.mono h _ v hr.1, RepM.mono h r s hr.2⟩
  | .nilS :: r, v :: s, hr => by simp only [RepM] at hr ⊢; exact ⟨Rep1.mono h _ v hr.1, RepM.mono h r s hr.2⟩
  | .nilF :: r, v :: s, hr => by simp only [RepM] at hr ⊢; exact ⟨Rep1.mono h _ v hr.1, RepM.mono h r s hr.2⟩
  | .clo _ _ _ :: r, v :: s, hr => by simp only [RepM] at hr ⊢; exact ⟨Rep1.mono h _ v hr.1, RepM.mono h r s hr.2⟩
  | .sl _ _ _ :: r, v :: s, hr => by simp only [RepM] at hr ⊢; exact ⟨Rep1.mono h _ v hr.1, RepM.mono h r s hr.2⟩
  | .iref _ _ :: r, v :: s, hr => by simp only [RepM] at hr ⊢; exact ⟨Rep1.mono h _ v hr.1, RepM.mono h r s hr.2⟩
  | .loc _ _ :: r, v :: s, hr => by simp only [RepM] at hr ⊢; exact ⟨Rep1.mono h _ v hr.1, RepM.mono h r s hr.2⟩
  | .elt _ _ _ _ :: r, v :: s, hr => by simp only [RepM] at hr ⊢; exact ⟨Rep1.mono h _ v hr.1, RepM.mono h r s hr.2⟩
  | .qs _ _ _ :: r, v :: s, hr => by simp only [RepM] at hr ⊢; exact ⟨Rep1.mono h _ v hr.1, RepM.mono h r s hr.2⟩
  | .own _ _ :: r, v :: s, hr => by simp only [RepM] at hr ⊢; exact ⟨Rep1.mono h _ v hr.1, RepM.mono h r s hr.2⟩
  | .tup _ :: r, v :: s, hr => by simp only [RepM, Rep1] at hr; exact hr.1.elim
  | [], _ :: _, hr => by simp only [RepM] at hr
  | _ :: _, [], hr => by simp only [RepM] at hr
end

theorem Rep2.mono (h : Ext ρ I w ρ' I' w') (a : AV) (v : Value) (hr : Rep2 T I w ρ a v) : Rep2 T I' w' ρ' a v := by
  cases a <;> simp only [Rep2] at hr ⊢ <;> first
    | exact Rep1.mono h _ _ hr
    | (obtain ⟨arr, hv, hl⟩ := hr; exact ⟨arr, hv, RepL.mono h _ _ hl⟩)
theorem Rep2L.mono (h : Ext ρ I w ρ' I' w') : ∀ (l : List AV) (vs : List Value), Rep2L T I w ρ l vs → Rep2L T I' w' ρ' l vs
  | [], [], _ => trivial
  | _ :: r, _ :: s, hr => ⟨Rep2.mono h _ _ hr.1, Rep2L.mono h r s hr.2⟩
  | [], _ :: _, hr => hr.elim
  | _ :: _, [], hr => hr.elim
theorem Rep.mono (h : Ext ρ I w ρ' I' w') (a : AV) (v : Value) (hr : Rep T I w ρ a v) : Rep T I' w' ρ' a v := by
  cases a <;> simp only [Rep] at hr ⊢ <;> first
    | exact Rep2.mono h _ _ hr
    | (obtain ⟨arr, hv, hl⟩ := hr; exact ⟨arr, hv, Rep2L.mono h _ _ hl⟩)

theorem Rep.of2 {a : AV} {v : Value} (h : Rep2 T I w ρ a v) : Rep T I w ρ a v := by
  cases a <;> simp only [Rep] <;> first
    | exact h
    | (simp only [Rep2, Rep1] at h)
theorem Rep2.of1 {a : AV} {v : Value} (h : Rep1 T I w ρ a v) : Rep2 T I w ρ a v := by
  cases a <;> simp only [Rep2] <;> first
    | exact h
    | (simp only [Rep1] at h)
theorem Rep.of1 {a : AV} {v : Value} (h : Rep1 T I w ρ a v) : Rep T I w ρ a v := .of2 (.of1 h)

theorem repM_iff : ∀ (l : List AV) (vs : List Value), RepM T I w ρ l vs ↔ Rep2L T I w ρ l vs
  | [], [] => by simp [RepM, Rep2L]
  | a :: r, v :: s => by
    have := repM_iff r s
    cases a <;> simp only [RepM, Rep2L, Rep2, this]
  | [], _ :: _ => by simp [RepM, Rep2L]
  | _ :: _, [] => by simp [RepM, Rep2L]

theorem RepL.length : ∀ {l : List AV} {vs : List Value}, RepL T I w ρ l vs → l.length = vs.length
  | [], [], _ => rfl
  | _ :: r, _ :: s, h => by simp only [RepL] at h; simp [RepL.length h.2]
  | [], _ :: _, h => by simp only [RepL] at h
  | _ :: _, [], h => by simp only [RepL] at h
theorem Rep2L.length : ∀ {l : List AV} {vs : List Value}, Rep2L T I w ρ l vs → l.length = vs.length
  | [], [], _ => rfl
  | _ :: r, _ :: s, h => by simp [Rep2L.length h.2]
  | [], _ :: _, h => h.elim
  | _ :: _, [], h => h.elim

theorem RepL.nth : ∀ {l : List AV} {vs : List Value} (_ : RepL T I w ρ l vs) (i : Nat) (_ : i < l.length), ∃ c, vs[i]? = some c ∧ c.oneCell' = true ∧ Rep1 T I w ρ (nth l i) c
  | _ :: _, v :: _, h, 0, _ => by simp only [RepL] at h; exact ⟨v, by simp, h.1.1, h.1.2⟩
  | _ :: r, _ :: s, h, i + 1, hi => by
    simp only [RepL] at h
    obtain ⟨c, hc, h1, h2⟩ := RepL.nth h.2 i (by simpa using hi)
    exact ⟨c, by simpa using hc, h1, h2⟩
  | [], [], _, _, hi => by simp at hi
  | [], _ :: _, h, _, _ => by simp only [RepL] at h
  | _ :: _, [], h, _, _ => by simp only [RepL] at h
theorem Rep2L.nth : ∀ {l : List AV} {vs : List Value} (_ : Rep2L T I w ρ l vs) (i : Nat) (_ : i < l.length), ∃ c, vs[i]? = some c ∧ Rep2 T I w ρ (nth l i) c
  | _ :: _, v :: _, h, 0, _ => ⟨v, by simp, h.1⟩
  | _ :: r, _ :: s, h, i + 1, hi => by
    obtain ⟨c, hc, h2⟩ := Rep2L.nth h.2 i (by simpa using hi)
    exact ⟨c, by simpa using hc, h2⟩
  | [], [], _, _, hi => by simp at hi
  | [], _ :: _, h, _, _ => h.elim
  | _ :: _, [], h, _, _ => h.elim

/-- A list of cells, cell by cell. -/
theorem repL_of : ∀ (l : List AV) (vs : List Value), l.length = vs.length → (∀ i, i < l.length → ∃ c, vs[i]? = some c ∧ c.oneCell' = true ∧ Rep1 T I w ρ (nth l i) c) → RepL T I w ρ l vs
  | [], [], _, _ => by simp [RepL]
  | a :: r, v :: s, hl, h => by
    simp only [RepL]
    refine ⟨?_, repL_of r s (by simpa using hl) (fun i hi => ?_)⟩
    · obtain ⟨c, hc, h1, h2⟩ := h 0 (by simp)
      simp at hc
      subst hc
      exact ⟨h1, h2⟩
    · obtain ⟨c, hc, h1, h2⟩ := h (i + 1) (by simpa using hi)
      exact ⟨c, by simpa using hc, h1, h2⟩
  | [], _ :: _, hl, _ => by simp at hl
  | _ :: _, [], hl, _ => by simp at hl

theorem rep_ofCell (v : Value) : Rep1 T I w ρ (AV.ofCell v) v := by
  unfold AV.ofCell
  split <;> simp [Rep1]

/-- The cells of a value that is no tuple. -/
theorem Rep2.cells {a : AV} {v : Value} (h : Rep2 T I w ρ a v) (hb : ∀ vs, a ≠ .tup vs) (h1 : (∀ cs, a ≠ .agg cs) → v.oneCell' = true) : RepL T I w ρ a.cells v.cells.toList := by
  cases a <;> first
    | (simp only [Rep2] at h
       have hone := h1 (fun _ => by simp)
       have hc : v.cells = #[v] := by cases v <;> first | rfl | (simp [Value.oneCell'] at hone)
       simp only [AV.cells, hc, RepL]
       exact ⟨⟨hone, h⟩, trivial⟩)
    | (simp only [Rep2] at h
       obtain ⟨arr, rfl, hl⟩ := h
       exact hl)
    | exact absurd rfl (hb _)

theorem takeF_length (g : Nat → AV) : ∀ (n j : Nat), (takeF g j n).length = n
  | 0, _ => rfl
  | n + 1, j => by simp [takeF, takeF_length g n (j + 1)]
theorem nth_takeF (g : Nat → AV) : ∀ (n j i : Nat), i < n → nth (takeF g j n) i = g (j + i)
  | n + 1, j, 0, _ => by simp [takeF, nth]
  | n + 1, j, i + 1, h => by
    simp only [takeF, nth]
    rw [nth_takeF g n (j + 1) i (by omega)]
    congr 1; omega
  | 0, _, _, h => by omega
end Go.Proofs.Ytbhbjmneglkgnaa.AI
