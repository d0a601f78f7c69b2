/- What a law is handed, read as the evaluator's values. Conditions: none. -/
import Derived.Test.YtbhbjmneglkgnaaAiFn
import Derived.Deep.Slices
import Derived.Carry
import Derived.ChangeArms
import Derived.OpenShut
namespace Go.Proofs.Ytbhbjmneglkgnaa.AI
open Go Go.RowKit

def ArgC (A : TypeId → List AV → Prop) : List (Nat × Nat × TypeId) → List AV → Prop
  | [], l => l = []
  | (_, _, t) :: r, l => ∃ x y, l = x ++ y ∧ A t x ∧ ArgC A r y
def ArgN (A : List AV → Prop) : Nat → List AV → Prop
  | 0, l => l = []
  | n + 1, l => ∃ x y, l = x ++ y ∧ A x ∧ ArgN A n y

def szOf (E : Env) (t : TypeId) : Nat := match E.tab t with
  | some td => td.size
  | none => 0

/-- The cells of a value of the type, as the evaluator has them. -/
def Arg (E : Env) : Nat → TypeId → List AV → Prop
  | 0, _, _ => False
  | d + 1, t, l => match E.tab t with
    | some ⟨.int k, _, _, _⟩ => ∃ z, l = [.int k z] ∧ (Lit.int k z).wf = true
    | some ⟨.bool, _, _, _⟩ => ∃ b, l = [.bit b]
    | some ⟨.struct fs, _, _, _⟩ => ArgC (Arg E d) fs l
    | some ⟨.array n e, _, _, _⟩ => ArgN (Arg E d e) n l
    | some ⟨.slice e, _, _, _⟩ => ∃ k f, l = [.sl (szOf E e) k f] ∧ k ≤ 9223372036854775807 ∧ ∀ i, i < k → Arg E d e (takeF (f i) 0 (szOf E e))
    | _ => False

def seqB (E : Env) (A : TypeId → Bool) : List (Nat × Nat × TypeId) → Nat → Nat → Bool
  | [], o, size => o == size
  | (o', s, t) :: r, o, size => o' == o && s == szOf E t && A t && seqB E A r (o + s) size
def argB (E : Env) : Nat → TypeId → Bool
  | 0, _ => false
  | d + 1, t => match E.tab t with
    | some ⟨.int _, _, _, _⟩ => true
    | some ⟨.bool, _, _, _⟩ => true
    | some ⟨.struct fs, s, _, _⟩ => seqB E (argB E d) fs 0 s
    | some ⟨.array n e, s, _, _⟩ => argB E d e && s == n * szOf E e
    | some ⟨.slice e, _, _, _⟩ => argB E d e && Nat.blt 0 (szOf E e)
    | _ => false

variable {P : Program} {E : Env} {w : World} {I : Nat → Nat → Prop} {H : Type} {enc : TypeId × Value → H} {base : Nat} {spare : Nat → Bool} {held : Bool}

theorem szOf_cells (h : TabOK P E) {t : TypeId} {td : TD} (ht : E.tab t = some td) : P.cellsOf t = szOf E t ∧ td.size = szOf E t := by
  obtain ⟨i, z, g⟩ := h.gives ht
  constructor
  · simp [Program.cellsOf, g.info, szOf, ht, g.size]
  · simp [szOf, ht]

theorem argB_some {d : Nat} {t : TypeId} (h : argB E d t = true) : ∃ td, E.tab t = some td := by
  cases d with
  | zero => cases h
  | succ d =>
    cases ht : E.tab t with
    | none => simp [argB, ht] at h
    | some td => exact ⟨td, rfl⟩

theorem repL_append {T : TypeId} {ρ : Nat → Place} : ∀ {l l' : List AV} {vs vs' : List Value}, RepL T I w ρ l vs → RepL T I w ρ l' vs' → RepL T I w ρ (l ++ l') (vs ++ vs')
  | [], _, [], _, _, h' => h'
  | _ :: _, _, _ :: _, _, h, h' => by
    simp only [RepL, List.cons_append] at h ⊢
    exact ⟨h.1, repL_append h.2 h'⟩
  | [], _, _ :: _, _, h, _ => by simp [RepL] at h
  | _ :: _, _, [], _, h, _ => by simp [RepL] at h

theorem takeF_nth : ∀ (l : List AV), takeF (nth l) 0 l.length = l := by
  have key : ∀ (l pre : List AV), takeF (nth (pre ++ l)) pre.length l.length = l := by
    intro l
    induction l with
    | nil => intro pre; rfl
    | cons a l ih =>
      intro pre
      have := ih (pre ++ [a])
      simp only [List.append_assoc, List.cons_append, List.nil_append, List.length_append, List.length_cons, List.length_nil] at this
      have hn : ∀ (pre : List AV), nth (pre ++ a :: l) pre.length = a := by
        intro pre
        induction pre with
        | nil => rfl
        | cons b r ih => simpa [nth] using ih
      simp only [List.length_cons, takeF, hn, this]
  intro l
  exact key l []

theorem readC (h : TabOK P E) {A : TypeId → List AV → Prop} {B : TypeId → Bool} {n : Nat}
    (hA : ∀ t, B t = true → ∀ cs x, DataW.trod enc P w base spare held n t cs = some x → ∃ l, A t l ∧ RepL E.errT I w noPl l cs) (cs : List Value) :
    ∀ (fields : List Field) (fs : List (Nat × Nat × TypeId)) (o : Nat), (fields.mapM fun f => (P.info? f.type).map fun i => (f.offset, i.size, f.type)) = some fs →
    seqB E B fs o cs.length = true → (∀ f ∈ fields, ∃ x, DataW.trod enc P w base spare held n f.type ((cs.drop f.offset).take (P.cellsOf f.type)) = some x) →
    ∃ l, ArgC A fs l ∧ RepL E.errT I w noPl l (cs.drop o)
  | [], fs, o, hf, hs, _ => by
    simp at hf
    subst hf
    simp only [seqB, beq_iff_eq] at hs
    subst hs
    exact ⟨[], rfl, by simp [RepL]⟩
  | f :: r, fs, o, hf, hs, hx => by
    simp only [List.mapM_cons, Option.bind_eq_bind, Option.pure_def] at hf
    cases hi : P.info? f.type with
    | none => simp [hi] at hf
    | some i =>
      cases hr : r.mapM (fun f => (P.info? f.type).map fun i => (f.offset, i.size, f.type)) with
      | none => simp [hi, hr] at hf
      | some rest =>
        simp [hi, hr] at hf
        subst hf
        simp only [seqB, Bool.and_eq_true, beq_iff_eq] at hs
        obtain ⟨⟨⟨h1, h2⟩, h3⟩, h4⟩ := hs
        have hcell : P.cellsOf f.type = i.size := by simp [Program.cellsOf, hi]
        obtain ⟨x, hx1⟩ := hx f (by simp)
        obtain ⟨l, hl1, hl2⟩ := hA f.type h3 _ _ hx1
        obtain ⟨l', hl3, hl4⟩ := readC h hA cs r rest (o + i.size) hr h4 (fun g hg => hx g (by simp [hg]))
        refine ⟨l ++ l', ⟨l, l', rfl, hl1, hl3⟩, ?_⟩
        rw [h1, hcell] at hl2
        have e : cs.drop o = (cs.drop o).take i.size ++ cs.drop (o + i.size) := by
          rw [← List.drop_drop]; exact (List.take_append_drop _ _).symm
        rw [e]
        exact repL_append hl2 hl4

theorem readN {A : List AV → Prop} {n s : Nat} {e : TypeId}
    (hA : ∀ cs x, DataW.trod enc P w base spare held n e cs = some x → ∃ l, A l ∧ RepL E.errT I w noPl l cs) (cs : List Value) :
    ∀ (k o : Nat), cs.length = (o + k) * s → (∀ i, i < k → ∃ x, DataW.trod enc P w base spare held n e ((cs.drop ((o + i) * s)).take s) = some x) →
    ∃ l, ArgN A k l ∧ RepL E.errT I w noPl l (cs.drop (o * s))
  | 0, o, hl, _ => by
    refine ⟨[], rfl, ?_⟩
    rw [List.drop_of_length_le (by rw [hl]; simp)]
    simp [RepL]
  | k + 1, o, hl, hx => by
    obtain ⟨x, hx1⟩ := hx 0 (by omega)
    obtain ⟨l, hl1, hl2⟩ := hA _ _ hx1
    obtain ⟨l', hl3, hl4⟩ := readN hA cs k (o + 1) (by rw [hl]; congr 1; omega) (fun i hi => by
      have := hx (i + 1) (by omega)
      rwa [show o + (i + 1) = o + 1 + i by omega] at this)
    refine ⟨l ++ l', ⟨l, l', rfl, hl1, hl3⟩, ?_⟩
    have e : cs.drop (o * s) = (cs.drop (o * s)).take s ++ cs.drop ((o + 1) * s) := by
      rw [Nat.add_mul, Nat.one_mul, ← List.drop_drop]; exact (List.take_append_drop _ _).symm
    rw [e]
    exact repL_append hl2 hl4

theorem read_sound (h : TabOK P E) (hI : ∀ b k, b < w.heap.size → I b k) : ∀ (d : Nat) (t : TypeId), argB E d t = true → ∀ (n : Nat) (cs : List Value) (x : DataW H × List MemPlace),
    DataW.trod enc P w base spare held n t cs = some x → ∃ l, Arg E d t l ∧ RepL E.errT I w noPl l cs
  | 0, _, hb, _, _, _, _ => by cases hb
  | d + 1, t, hb, n, cs, x, hx => by
    have ih := read_sound h hI d
    obtain ⟨⟨ds, size, bytes, z⟩, ht⟩ := argB_some hb
    obtain ⟨i, zv, g⟩ := h.gives ht
    obtain ⟨hc1, hc2⟩ := szOf_cells h ht
    simp only [argB, ht] at hb
    simp only [Arg, ht]
    cases ds with
    | prim => simp at hb
    | ptr => simp at hb
    | iface => simp at hb
    | int k =>
      obtain ⟨z, rfl, _, hw⟩ := DataW.trod_int (g.int rfl) hx
      exact ⟨_, ⟨z, rfl, hw⟩, by simp [RepL, Rep1, Value.oneCell']⟩
    | bool =>
      obtain ⟨b, rfl⟩ : ∃ b, cs = [.bool b] := by
        cases n with
        | zero => simp [DataW.trod] at hx
        | succ n =>
          unfold DataW.trod at hx
          rw [g.bool rfl] at hx
          split at hx <;> simp_all
      exact ⟨_, ⟨b, rfl⟩, by simp [RepL, Rep1, Value.oneCell']⟩
    | struct fs =>
      obtain ⟨fields, hu, hm⟩ := g.struct rfl
      obtain ⟨xs, m, rfl, rfl, hl, hxl, hxs⟩ := DataW.trod_struct hu hx
      obtain ⟨l, hl1, hl2⟩ := readC (A := Arg E d) (B := argB E d) h (fun t ht cs x => ih t ht m cs x) cs fields.toList fs 0 hm (by rw [hl, hc1, ← hc2]; exact hb) (fun f hf => by
        obtain ⟨i, hi, rfl⟩ := List.mem_iff_getElem.1 hf
        have := hxs i fields[i] (by simp)
        rw [List.getElem?_eq_getElem (by rw [hxl]; simpa using hi)] at this
        exact ⟨_, by simpa using this⟩)
      exact ⟨l, hl1, by simpa using hl2⟩
    | array k e =>
      simp only [Bool.and_eq_true, beq_iff_eq] at hb
      obtain ⟨tde, hte⟩ := argB_some hb.1
      obtain ⟨he1, he2⟩ := szOf_cells h hte
      obtain ⟨xs, m, rfl, rfl, hl, hxl, hxs⟩ := DataW.trod_array (g.array rfl) hx
      rw [he1] at hxs
      obtain ⟨l, hl1, hl2⟩ := readN (A := Arg E d e) (s := szOf E e) (fun cs x => ih e hb.1 m cs x) cs k 0 (by rw [hl, hc1, ← hc2]; simpa using hb.2) (fun i hi => by
        have := hxs i hi
        rw [List.getElem?_eq_getElem (by rw [hxl]; exact hi)] at this
        exact ⟨_, by simpa using this⟩)
      exact ⟨l, hl1, by simpa using hl2⟩
    | slice e =>
      simp only [Bool.and_eq_true] at hb
      obtain ⟨hb, hpos⟩ := hb
      have hpos : 0 < szOf E e := by simpa using hpos
      obtain ⟨tde, hte⟩ := argB_some hb
      obtain ⟨he1, he2⟩ := szOf_cells h hte
      rcases Deep.open_slice (g.slice rfl) hx with ⟨rfl, _⟩ | ⟨a, len, cap, m, n', D, Pl, rfl, hba, hlc, hcm, hm, _, hel⟩
      · refine ⟨_, ⟨0, fun _ _ => .bad, rfl, by omega, fun i hi => absurd hi (by omega)⟩, ?_⟩
        simp only [RepL, Rep1, Value.oneCell', and_true, true_and]
        exact ⟨none, 0, rfl, Nat.le_refl _, Nat.zero_le _, fun h => absurd h (by omega)⟩
      · have hlm : len ≤ m := by rw [hm]; split <;> omega
        have : ∀ i, ∃ l : List AV, i < len → Arg E d e l ∧ ∃ cs', w.cells? base (a.add (i * szOf E e)) (szOf E e) = some cs' ∧ RepL E.errT I w noPl l cs' := by
          intro i
          by_cases hi : i < len
          · obtain ⟨cs', h1, h2⟩ := hel i (by omega)
            obtain ⟨l, h3, h4⟩ := ih e hb _ _ _ h2
            rw [he1] at h1
            exact ⟨l, fun _ => ⟨h3, cs', h1, h4⟩⟩
          · exact ⟨[], fun h => absurd h hi⟩
        obtain ⟨F, hF⟩ := Classical.axiomOfChoice this
        have hlen : ∀ i, i < len → (F i).length = szOf E e := fun i hi => by
          obtain ⟨_, cs', h1, h2⟩ := hF i hi
          rw [h2.length, (World.cells?_some h1).2.1]
        refine ⟨_, ⟨len, fun i j => nth (F i) j, rfl, ?_, fun i hi => ?_⟩, ?_⟩
        · have : maxLen = 9223372036854775807 := rfl
          omega
        · have := takeF_nth (F i)
          rw [hlen i hi] at this
          show Arg E d e (takeF (nth (F i)) 0 (szOf E e))
          rw [this]
          exact (hF i hi).1
        · simp only [RepL, Rep1, Value.oneCell', and_true, true_and]
          refine ⟨some a, cap, rfl, hlc, hcm, fun h0 => ?_⟩
          have hcell : ∀ i j, i < len → j < szOf E e → ∃ c, w.cell? ((a.add (i * szOf E e)).add j) = some c ∧ c.oneCell' = true ∧ Rep1 E.errT I w noPl (nth (F i) j) c := by
            intro i j hi hj
            obtain ⟨_, cs', h1, h2⟩ := hF i hi
            obtain ⟨_, h3, h4⟩ := World.cells?_some h1
            obtain ⟨c, h5, h6, h7⟩ := h2.nth j (by rw [hlen i hi]; exact hj)
            exact ⟨c, by rw [h4 j hj, h5], h6, h7⟩
          have hspot : a.spot = none := by
            obtain ⟨c, hc, _⟩ := hcell 0 0 h0 hpos
            rw [Nat.zero_mul] at hc
            simp only [Addr.add, if_true] at hc
            unfold World.cell? at hc
            split at hc
            · split at hc
              · cases hc
              · rename_i hn; simpa using hn
            · cases hc
          have ha : a = ⟨a.block, a.off, none⟩ := by rw [← hspot]
          refine ⟨a.block, a.off, by rw [← hspot], fun i j hi hj => ?_⟩
          have := hcell i j hi hj
          rw [ha, add_at, add_at, Nat.add_assoc] at this
          refine ⟨hI _ _ ?_, this⟩
          obtain ⟨c, hc, _⟩ := this
          unfold World.cell? at hc
          split at hc
          · rename_i hh; exact heap_lt hh
          · cases hc
end Go.Proofs.Ytbhbjmneglkgnaa.AI
