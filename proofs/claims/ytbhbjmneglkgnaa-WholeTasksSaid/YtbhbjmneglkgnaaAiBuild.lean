/- Aggregates and rows put together of parts. Conditions: none. -/
import Derived.Test.YtbhbjmneglkgnaaAiVal
namespace Go.Proofs.Ytbhbjmneglkgnaa.AI
open Go Go.RowKit

variable {P : Program} {E : Env} {T : TypeId} {ρ : Nat → Place} {I : Nat → Nat → Prop} {w : World}

theorem oneCell_of {v : AV} {x : Value} (hv : okPart v = true) (h : Rep1 T I w ρ v x) : x.oneCell' = true := by
  cases v with
  | own id n =>
    simp only [Rep1] at h
    rcases h with ⟨_, _, _, _, rfl⟩ | ⟨_, _, _, rfl⟩ <;> rfl
  | qs id n f =>
    simp only [Rep1] at h
    rcases h with ⟨_, _, _, _, _, _, _, _, rfl, _⟩ | ⟨_, _, _, rfl⟩ <;> rfl
  | err n =>
    simp only [Rep1] at h
    subst h
    rcases errV_cases T n with ⟨_, he⟩ | ⟨_, he⟩ <;> rw [he] <;> rfl
  | bad => simp [okPart] at hv
  | agg _ => simp only [Rep1] at h
  | tup _ => simp only [Rep1] at h
  | clo f a b => simp only [Rep1] at h; obtain ⟨_, _, rfl, _⟩ := h; rfl
  | sl sz n f => simp only [Rep1] at h; obtain ⟨_, _, rfl, _⟩ := h; rfl
  | iref k g => simp only [Rep1] at h; obtain ⟨_, _, rfl, _⟩ := h; rfl
  | loc id j => simp only [Rep1] at h; obtain ⟨_, _, _, _, _, rfl⟩ := h; rfl
  | elt id i j k => simp only [Rep1] at h; obtain ⟨_, _, _, _, _, _, _, rfl⟩ := h; rfl
  | _ => simp only [Rep1] at h; subst h; rfl

theorem cells_sound {v : AV} {x : Value} (hv : okPart v = true) (h : Rep2 T I w ρ v x) : RepL T I w ρ v.cells x.cells.toList := by
  refine Rep2.cells h (fun vs e => by subst e; simp [okPart] at hv) (fun hne => ?_)
  cases v <;> first
    | exact absurd rfl (hne _)
    | exact oneCell_of hv (by simpa only [Rep2] using h)

/-- Parts and their values. -/
def PartsRep (T : TypeId) (I : Nat → Nat → Prop) (w : World) (ρ : Nat → Place) : List (Nat × AV) → List (Nat × Value) → Prop
  | [], [] => True
  | (i, v) :: r, (j, x) :: s => (i = j ∧ Rep2 T I w ρ v x) ∧ PartsRep T I w ρ r s
  | _, _ => False

theorem foldl_set (off : Nat) : ∀ (xs : List Value) (k : Nat) (cs : Array Value),
    ((xs.zipIdx k).foldl (fun cs (c, j) => cs.setIfInBounds (off + j) c) cs).size = cs.size ∧
    ∀ q, ((xs.zipIdx k).foldl (fun cs (c, j) => cs.setIfInBounds (off + j) c) cs)[q]? = if off + k ≤ q ∧ q < off + k + xs.length ∧ q < cs.size then xs[q - (off + k)]? else cs[q]?
  | [], k, cs => by
    refine ⟨rfl, fun q => ?_⟩
    simp only [List.zipIdx_nil, List.foldl_nil, List.length_nil]
    rw [if_neg (by omega)]
  | x :: xs, k, cs => by
    simp only [List.zipIdx_cons, List.foldl_cons]
    obtain ⟨h1, h2⟩ := foldl_set off xs (k + 1) (cs.setIfInBounds (off + k) x)
    refine ⟨by rw [h1]; simp, fun q => ?_⟩
    rw [h2 q]
    simp only [Array.size_setIfInBounds, List.length_cons]
    by_cases e : q = off + k
    · subst e
      rw [if_neg (by omega)]
      by_cases hs : off + k < cs.size
      · rw [if_pos (by omega)]; simp [hs]
      · rw [if_neg (by omega)]; simp [hs]
    · by_cases c : off + (k + 1) ≤ q ∧ q < off + (k + 1) + xs.length ∧ q < cs.size
      · rw [if_pos c, if_pos (by omega)]
        rw [show q - (off + k) = (q - (off + (k + 1))) + 1 by omega, List.getElem?_cons_succ]
      · rw [if_neg c, if_neg (by omega)]
        rw [Array.getElem?_setIfInBounds_ne (Ne.symm e)]

theorem fill_sound (pl : Nat → Nat) (sz : Nat → Nat) (n size : Nat) (place : Nat → Option (Nat × Nat)) (hpl : ∀ i, i < n → place i = some (pl i, sz i)) :
    ∀ (parts : List (Nat × AV)) (xs : List (Nat × Value)) (zf : Nat → AV) (zc : Array Value), partsOK pl sz n size parts = true → PartsRep T I w ρ parts xs → zc.size = size →
      (∀ j, j < size → ∃ c, zc[j]? = some c ∧ c.oneCell' = true ∧ Rep1 T I w ρ (zf j) c) →
      ∃ out, Instr.fill place zc xs = some out ∧ out.size = size ∧ ∀ j, j < size → ∃ c, out[j]? = some c ∧ c.oneCell' = true ∧ Rep1 T I w ρ (fillF pl parts zf j) c
  | [], [], zf, zc, _, _, hs, hz => ⟨zc, rfl, hs, hz⟩
  | (i, v) :: r, (j, x) :: s, zf, zc, hok, hp, hs, hz => by
    simp only [partsOK, Bool.and_eq_true] at hok
    obtain ⟨⟨⟨⟨ho, hi⟩, hl⟩, hfit⟩, hr⟩ := hok
    obtain ⟨⟨rfl, hv⟩, hp'⟩ := hp
    have hi' : i < n := by simpa using hi
    have hl' : v.cells.length = sz i := Nat.eq_of_beq_eq_true hl
    have hfit' : pl i + sz i ≤ size := by simpa using hfit
    have hc := cells_sound ho hv
    have hlen := hc.length
    rw [hl'] at hlen
    have hxs : x.cells.size = sz i := by rw [← Array.length_toList]; exact hlen.symm
    obtain ⟨g1, g2⟩ := foldl_set (pl i) x.cells.toList 0 zc
    have key := fill_sound pl sz n size place hpl r s (fun j => match Nat.ble (pl i) j, Nat.blt j (pl i + v.cells.length) with
        | true, true => nth v.cells (j - pl i)
        | _, _ => zf j) ((x.cells.toList.zipIdx 0).foldl (fun cs (c, j) => cs.setIfInBounds (pl i + j) c) zc) hr hp' (by rw [g1, hs]) (fun q hq => by
      rw [g2 q]
      by_cases cq : pl i ≤ q ∧ q < pl i + sz i
      · rw [if_pos ⟨by omega, by rw [Array.length_toList, hxs]; omega, by omega⟩]
        have e1 : Nat.ble (pl i) q = true := by simpa using cq.1
        have e2 : Nat.blt q (pl i + v.cells.length) = true := by rw [hl']; simpa using cq.2
        simp only [e1, e2]
        have := hc.nth (q - pl i) (by rw [hl']; omega)
        simpa using this
      · rw [if_neg (by rw [Array.length_toList, hxs]; omega)]
        have e : ¬ (Nat.ble (pl i) q = true ∧ Nat.blt q (pl i + v.cells.length) = true) := by
          rw [hl']; simpa using cq
        split
        · rename_i a b
          exact absurd ⟨a, b⟩ e
        · exact hz q hq)
    obtain ⟨out, h1, h2, h3⟩ := key
    refine ⟨out, ?_, h2, h3⟩
    simp only [Instr.fill, hpl i hi']
    rw [if_neg]
    · have : (x.cells.zipIdx.foldl (fun cs (c, j) => cs.setIfInBounds (pl i + j) c) zc) = ((x.cells.toList.zipIdx 0).foldl (fun cs (c, j) => cs.setIfInBounds (pl i + j) c) zc) := by
        rw [← Array.foldl_toList, Array.toList_zipIdx]
      rw [this]; exact h1
    · simp only [hxs, ne_eq, not_true, Bool.not_eq_true]
      simp [hs]
      omega
  | [], _ :: _, _, _, _, h, _, _ => h.elim
  | _ :: _, [], _, _, _, h, _, _ => h.elim

theorem partsRep_map {ev : Operand → AV} {evc : Operand → Value} (g : AV → AV) {ρ' : Nat → Place} : ∀ (ps : List (Nat × Operand)), (∀ p ∈ ps, Rep2 T I w ρ' (g (ev p.2)) (evc p.2)) →
    PartsRep T I w ρ' (ps.map fun p => (p.1, g (ev p.2))) (ps.map fun p => (p.1, evc p.2))
  | [], _ => trivial
  | p :: r, h => ⟨⟨rfl, h p (by simp)⟩, partsRep_map g r fun q hq => h q (by simp [hq])⟩
end Go.Proofs.Ytbhbjmneglkgnaa.AI
