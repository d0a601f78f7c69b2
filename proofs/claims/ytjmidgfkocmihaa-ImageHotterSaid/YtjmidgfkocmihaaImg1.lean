/- Chapter 45: the tables, and the small functions' contracts. Conditions: none. -/
import Derived.Test.YtjmidgfkocmihaaAiForce
import Derived.Test.YtjmidgfkocmihaaChecked
namespace Go.Proofs.Ytjmidgfkocmihaa.Img
open Go Go.Proofs.Ytjmidgfkocmihaa.AI Go.Proofs
noncomputable section
set_option maxRecDepth 100000
def tabs : List (Nat × TD) := [
  (2, ⟨.int .i64, 1, 8, [.int .i64 0]⟩),
  (3, ⟨.int .i64, 1, 8, [.int .i64 0]⟩),
  (4, ⟨.bool, 1, 1, [.bit false]⟩),
  (5, ⟨.int .u8, 1, 1, [.int .u8 0]⟩),
  (9, ⟨.prim, 1, 16, [.bad]⟩),
  (12, ⟨.int .u64, 1, 8, [.int .u64 0]⟩),
  (13, ⟨.struct [(0, 1, 9), (1, 1, 12)], 2, 24, [.bad, .int .u64 0]⟩),
  (20, ⟨.iface, 1, 16, [.nilI]⟩),
  (21, ⟨.int .i32, 1, 4, [.int .i32 0]⟩),
  (22, ⟨.struct [(0, 1, 3), (1, 1, 3), (2, 1, 3), (3, 1, 3), (4, 1, 3)], 5, 40, [.int .i64 0, .int .i64 0, .int .i64 0, .int .i64 0, .int .i64 0]⟩),
  (23, ⟨.struct [(0, 1, 3), (1, 1, 3), (2, 1, 3), (3, 1, 3), (4, 1, 3)], 5, 40, [.int .i64 0, .int .i64 0, .int .i64 0, .int .i64 0, .int .i64 0]⟩),
  (26, ⟨.iface, 1, 16, [.nilI]⟩),
  (27, ⟨.iface, 1, 16, [.nilI]⟩),
  (31, ⟨.struct [(0, 1, 3), (1, 1, 3), (2, 1, 3), (3, 1, 3)], 4, 32, [.int .i64 0, .int .i64 0, .int .i64 0, .int .i64 0]⟩),
  (32, ⟨.struct [(0, 1, 3), (1, 1, 3), (2, 1, 3), (3, 1, 3)], 4, 32, [.int .i64 0, .int .i64 0, .int .i64 0, .int .i64 0]⟩),
  (40, ⟨.slice 3, 1, 24, [.nilS]⟩),
  (45, ⟨.slice 40, 1, 24, [.nilS]⟩),
  (46, ⟨.struct [(0, 1, 40), (1, 1, 40), (2, 1, 45)], 3, 72, [.nilS, .nilS, .nilS]⟩),
  (47, ⟨.struct [(0, 1, 40), (1, 1, 40), (2, 1, 45)], 3, 72, [.nilS, .nilS, .nilS]⟩),
  (53, ⟨.slice 57, 1, 24, [.nilS]⟩),
  (54, ⟨.struct [(0, 1, 3), (1, 1, 3), (2, 1, 3), (3, 1, 53)], 4, 48, [.int .i64 0, .int .i64 0, .int .i64 0, .nilS]⟩),
  (55, ⟨.struct [(0, 1, 3), (1, 1, 3), (2, 1, 3), (3, 1, 53)], 4, 48, [.int .i64 0, .int .i64 0, .int .i64 0, .nilS]⟩),
  (56, ⟨.struct [(0, 1, 3), (1, 1, 3), (2, 1, 3)], 3, 24, [.int .i64 0, .int .i64 0, .int .i64 0]⟩),
  (57, ⟨.struct [(0, 1, 3), (1, 1, 3), (2, 1, 3)], 3, 24, [.int .i64 0, .int .i64 0, .int .i64 0]⟩),
  (62, ⟨.int .i64, 1, 8, [.int .i64 0]⟩),
  (64, ⟨.array 3 3, 3, 24, [.int .i64 0, .int .i64 0, .int .i64 0]⟩),
  (65, ⟨.slice 64, 1, 24, [.nilS]⟩),
  (68, ⟨.int .u64, 1, 8, [.int .u64 0]⟩),
  (83, ⟨.int .u32, 1, 4, [.int .u32 0]⟩),
  (87, ⟨.prim, 1, 8, [.nilP]⟩)]
theorem tabsOK : (tabs.all fun p => tdOK Try.prog p.1 p.2) = true := by kernel_rfl
theorem mixed : Try.prog.follows .mixedOrders = true := by kernel_rfl
abbrev TE : Nat := 62


def clip (n lo hi : Int) : Int := min (max n lo) hi
def sClip : Sp
  | [.int .i64 n, .int .i64 lo, .int .i64 hi] => .ok (.int .i64 (clip n lo hi))
  | _ => .no
theorem ok39 : EntOK Try.prog TE 39 sClip := by
  refine ⟨callable_of Try.func39 (by kernel_rfl), fun args => ?_⟩
  unfold sClip
  split
  · refine fn_ofF tabsOK specOK_nil mixed Try.func39 (by kernel_rfl) ?_
    show AVle TE _ _
    exact AVle.refl
  · trivial
def clip2 (n lo hi : Int) : Int := max lo (min n hi)
def sClip2 : Sp
  | [.int .i64 n, .int .i64 lo, .int .i64 hi] => .ok (.int .i64 (max lo (min n hi)))
  | _ => .no
theorem ok22 : EntOK Try.prog TE 22 sClip2 := by
  refine ⟨callable_of Try.func22 (by kernel_rfl), fun args => ?_⟩
  unfold sClip2
  split
  · refine fn_ofF tabsOK specOK_nil mixed Try.func22 (by kernel_rfl) ?_
    show AVle TE _ _
    exact AVle.refl
  · trivial
theorem ok40 : EntOK Try.prog TE 40 sClip2 := by
  refine ⟨callable_of Try.func40 (by kernel_rfl), fun args => ?_⟩
  unfold sClip2
  split
  · refine fn_ofF tabsOK specOK_nil mixed Try.func40 (by kernel_rfl) ?_
    show AVle TE _ _
    exact AVle.refl
  · trivial
def within (n lo hi : Int) : Bool := decide (lo ≤ n) && decide (n ≤ hi)
def sWithin : Sp
  | [.int .i64 n, .int .i64 lo, .int .i64 hi] => .ok (.bit (within n lo hi))
  | _ => .no
theorem ok29 : EntOK Try.prog TE 29 sWithin := by
  refine ⟨callable_of Try.func29 (by kernel_rfl), fun args => ?_⟩
  unfold sWithin
  split
  · refine fn_ofF tabsOK specOK_nil mixed Try.func29 (by kernel_rfl) ?_
    refine Brn.mk (fun h => ?_) (fun h => ?_)
    · refine AVle.bit ?_
      unfold within
      rw [h]
      rfl
    · refine AVle.bit ?_
      unfold within
      rw [h]
      rfl
  · trivial
def sNum : Sp
  | [.err n] => .ok (.int .i64 n)
  | _ => .no
theorem ok12 : EntOK Try.prog TE 12 sNum := by
  refine ⟨callable_of Try.func12 (by kernel_rfl), fun args => ?_⟩
  unfold sNum
  split
  · rename_i n
    refine fn_ofF tabsOK specOK_nil mixed Try.func12 (by kernel_rfl) ?_
    refine Brn.mk (fun h => ?_) (fun h => ?_)
    · refine AVle.int ?_
      simp at h; exact h.symm
    · refine Brn.mk (fun h2 => ?_) (fun h2 => ?_)
      · exact AVle.int rfl
      · simp_all
  · trivial

def badR (x lo hi : Int) : Bool := decide (x < lo) || decide (hi < x)
/-- The check of a configuration. -/
def chk (g l w t c : Int) : Int :=
  if badR g 0 65536 || badR l 0 65536 || badR w (-8388608) 8388608 || badR t (-8388608) 8388608 || badR c (-8388608) 8388608 then 3
  else if decide (w < c) || decide (t < w) then 26 else 0
def sChk : Sp
  | [.agg [.int .i64 g, .int .i64 l, .int .i64 w, .int .i64 t, .int .i64 c]] => .ok (.err (chk g l w t c))
  | _ => .no
def tbl (g l w t c : Int) (i j : Nat) : Int :=
  match i, j with
  | 0, 0 => g | 0, 1 => 0 | 0, 2 => 65536
  | 1, 0 => l | 1, 1 => 0 | 1, 2 => 65536
  | 2, 0 => w | 2, 1 => -8388608 | 2, 2 => 8388608
  | 3, 0 => t | 3, 1 => -8388608 | 3, 2 => 8388608
  | 4, 0 => c | 4, 1 => -8388608 | 4, 2 => 8388608
  | _, _ => 0
theorem chk_bad {g l w t c : Int} {i : Nat} (hi : i < 5) (h : badR (tbl g l w t c i 0) (tbl g l w t c i 1) (tbl g l w t c i 2) = true) : chk g l w t c = 3 := by
  unfold chk
  rw [if_pos]
  match i, hi with
  | 0, _ => simp only [tbl] at h; simp [h]
  | 1, _ => simp only [tbl] at h; simp [h]
  | 2, _ => simp only [tbl] at h; simp [h]
  | 3, _ => simp only [tbl] at h; simp [h]
  | 4, _ => simp only [tbl] at h; simp [h]
theorem chk_good {g l w t c : Int} (h : ∀ j, j < 5 → badR (tbl g l w t c j 0) (tbl g l w t c j 1) (tbl g l w t c j 2) = false) :
    chk g l w t c = if decide (w < c) || decide (t < w) then 26 else 0 := by
  have h0 := h 0 (by omega)
  have h1 := h 1 (by omega)
  have h2 := h 2 (by omega)
  have h3 := h 3 (by omega)
  have h4 := h 4 (by omega)
  simp only [tbl] at h0 h1 h2 h3 h4
  unfold chk
  rw [if_neg (by simp [h0, h1, h2, h3, h4])]
theorem ok13 : EntOK Try.prog TE 13 sChk := by
  refine ⟨callable_of Try.func13 (by kernel_rfl), fun args => ?_⟩
  unfold sChk
  split
  · rename_i g l w t c
    refine fn_ofF tabsOK specOK_nil mixed Try.func13 (by kernel_rfl) ?_
    refine LoopOK.mk ⟨{ i : Nat // i ≤ 5 ∧ ∀ j, j < i → badR (tbl g l w t c j 0) (tbl g l w t c j 1) (tbl g l w t c j 2) = false },
      fun i => mkSt [(1, .loc 1 0), (20, .own 20 5), (21, .int .i64 5), (22, .int .i64 i.1)]
        [(1, ⟨23, 5, 1, fun _ j => nth [.int .i64 g, .int .i64 l, .int .i64 w, .int .i64 t, .int .i64 c] j, 0, true⟩), (20, ⟨64, 3, 5, fun i j => .int .i64 (tbl g l w t c i j), 0, false⟩)],
      fun i => 5 - i.1, ⟨⟨0, by omega, fun j hj => absurd hj (by omega)⟩, ?_⟩, ?_⟩
    · refine wk_of [(1, some 1), (20, some 20)] rfl ⟨rfl, rfl, ⟨rfl, rfl⟩, ⟨rfl, rfl⟩, trivial⟩ ⟨RowLe.fin rfl rfl rfl rfl rfl ?_, RowLe.fin rfl rfl rfl rfl rfl ?_, trivial⟩
      · repeat' first
          | exact trivial
          | exact ⟨rfl, rfl⟩
          | refine ⟨?_, ?_⟩
      · repeat' first
          | exact trivial
          | exact Or.inr (by kernel_rfl)
          | refine ⟨?_, ?_⟩
    · rintro ⟨i, hi, hinv⟩
      refine Brn.mk (fun h => ?_) (fun h => ?_)
      · have h : (i : Int) < 5 := by simpa using h
        have hb : (0 : Int) ≤ (i : Int) ∧ (i : Int) < ((5 : Nat) : Int) := ⟨by omega, by omega⟩
        refine Chk.mk hb ?_
        refine Chk.mk rfl (Chk.mk rfl ?_)
        refine Brn.mk (fun h1 => ?_) (fun h1 => ?_)
        · refine Chk.mk (by decide) ?_
          refine AVle.err ?_
          exact (chk_bad (i := i) (by omega) (by simp only [badR, Bool.or_eq_true]; exact .inl h1)).symm
        · refine Chk.mk rfl (Chk.mk rfl ?_)
          refine Brn.mk (fun h2 => ?_) (fun h2 => ?_)
          · refine Chk.mk (by decide) ?_
            refine AVle.err ?_
            exact (chk_bad (i := i) (by omega) (by simp only [badR, Bool.or_eq_true]; exact .inr h2)).symm
          · refine ⟨⟨i + 1, by omega, ?_⟩, by show 5 - (i + 1) < 5 - i; omega, ?_⟩
            · intro j hj
              rcases Nat.lt_succ_iff_lt_or_eq.1 hj with h3 | h3
              · exact hinv j h3
              · subst h3
                simp only [badR, Bool.or_eq_false_iff]
                exact ⟨h1, h2⟩
            · refine wk_of [(1, some 1), (20, some 20)] rfl ⟨rfl, rfl, ⟨rfl, rfl⟩, ⟨?_, rfl⟩, trivial⟩ ⟨RowLe.fin rfl rfl rfl rfl rfl ?_, ⟨rfl, rfl, rfl, rfl, rfl, ?_⟩, trivial⟩
              · show AV.int .i64 (wr ((i : Int) + 1)) = AV.int .i64 ((i + 1 : Nat) : Int)
                rw [wr_id (by omega) (by omega)]; rfl
              · repeat' first
                  | exact trivial
                  | exact ⟨by kernel_rfl, by kernel_rfl⟩
                  | refine ⟨?_, ?_⟩
              · intro a b _ _
                exact Or.inr rfl
      · have h : ¬ (i : Int) < 5 := by simpa using h
        have hg := chk_good (g := g) (l := l) (w := w) (t := t) (c := c) (fun j hj => hinv j (by omega))
        refine Brn.mk (fun h1 => ?_) (fun h1 => ?_)
        · refine Chk.mk (by decide) ?_
          refine AVle.err ?_
          rw [hg, if_pos (by rw [Bool.or_eq_true]; exact .inl h1)]
        · refine Brn.mk (fun h2 => ?_) (fun h2 => ?_)
          · refine Chk.mk (by decide) ?_
            refine AVle.err ?_
            rw [hg, if_pos (by rw [Bool.or_eq_true]; exact .inr h2)]
          · refine AVle.nilErr ?_
            rw [hg, if_neg (by rw [Bool.or_eq_true]; rintro (h | h) <;> simp_all)]
  · trivial
end
end Go.Proofs.Ytjmidgfkocmihaa.Img
