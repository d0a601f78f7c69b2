/- Chapter 45: the reference's check, the steps. Conditions: none. -/
import Derived.Test.YtjmidgfkocmihaaImg1
namespace Go.Proofs.Ytjmidgfkocmihaa.Img
open Go Go.Proofs.Ytjmidgfkocmihaa.AI Go.Proofs
noncomputable section
set_option maxRecDepth 100000

def sChkR : Sp
  | [.agg [.int .i64 g, .int .i64 l, .int .i64 w, .int .i64 t, .int .i64 c]] => .ok (.int .i64 (chk g l w t c))
  | _ => .no
def tbl3 (w t c : Int) (i : Nat) : Int := match i with
  | 0 => w | 1 => t | 2 => c | _ => 0
theorem within_bad {x lo hi : Int} : within x lo hi = !badR x lo hi := by
  simp only [within, badR]
  by_cases h1 : x < lo <;> by_cases h2 : hi < x <;> simp [h1, h2] <;> omega
theorem chk_bad3 {g l w t c : Int} {i : Nat} (hi : i < 3) (h : badR (tbl3 w t c i) (-8388608) 8388608 = true) : chk g l w t c = 3 := by
  unfold chk
  rw [if_pos]
  match i, hi with
  | 0, _ => simp only [tbl3] at h; simp [h]
  | 1, _ => simp only [tbl3] at h; simp [h]
  | 2, _ => simp only [tbl3] at h; simp [h]
theorem chk_good3 {g l w t c : Int} (h1 : badR g 0 65536 = false) (h2 : badR l 0 65536 = false) (h : ∀ j, j < 3 → badR (tbl3 w t c j) (-8388608) 8388608 = false) :
    chk g l w t c = if decide (w < c) || decide (t < w) then 26 else 0 := by
  have h3 := h 0 (by omega)
  have h4 := h 1 (by omega)
  have h5 := h 2 (by omega)
  simp only [tbl3] at h3 h4 h5
  unfold chk
  rw [if_neg (by simp [h1, h2, h3, h4, h5])]
theorem ok14 : EntOK Try.prog TE 14 sChkR := by
  refine ⟨callable_of Try.func14 (by kernel_rfl), fun args => ?_⟩
  unfold sChkR
  split
  · rename_i g l w t c
    refine fn_ofF tabsOK (specOK_cons ok29 specOK_nil) mixed Try.func14 (by kernel_rfl) ?_
    refine Brn.mk (fun h1 => ?_) (fun h1 => ?_)
    · rw [within_bad, Bool.not_not] at h1
      refine AVle.int ?_
      simp [chk, h1]
    · rw [within_bad, Bool.not_not] at h1
      refine Brn.mk (fun h2 => ?_) (fun h2 => ?_)
      · rw [within_bad, Bool.not_not] at h2
        refine AVle.int ?_
        simp [chk, h2]
      · rw [within_bad, Bool.not_not] at h2
        refine LoopOK.mk ⟨{ i : Nat // i ≤ 3 ∧ ∀ j, j < i → badR (tbl3 w t c j) (-8388608) 8388608 = false },
          fun i => mkSt [(1, .loc 1 0), (3, .own 21 3), (4, .int .i64 i.1)]
            [(1, ⟨23, 5, 1, fun _ j => nth [.int .i64 g, .int .i64 l, .int .i64 w, .int .i64 t, .int .i64 c] j, 0, true⟩), (21, ⟨3, 1, 3, fun i _ => .int .i64 (tbl3 w t c i), 0, false⟩)],
          fun i => 3 - i.1, ⟨⟨0, by omega, fun j hj => absurd hj (by omega)⟩, ?_⟩, ?_⟩
        · refine wk_of [(1, some 1), (21, some 21)] rfl ⟨rfl, rfl, ⟨rfl, rfl⟩, trivial⟩ ⟨RowLe.fin rfl rfl rfl rfl rfl ?_, RowLe.fin rfl rfl rfl rfl rfl ?_, trivial⟩
          · repeat' first
              | exact trivial
              | exact ⟨by kernel_rfl, by kernel_rfl⟩
              | refine ⟨?_, ?_⟩
          · repeat' first
              | exact trivial
              | exact Or.inr (by kernel_rfl)
              | refine ⟨?_, ?_⟩
        · rintro ⟨i, hi, hinv⟩
          refine Brn.mk (fun h => ?_) (fun h => ?_)
          · have h : (i : Int) < 3 := by simpa using h
            have hb : (0 : Int) ≤ (i : Int) ∧ (i : Int) < ((3 : Nat) : Int) := ⟨by omega, by omega⟩
            refine Chk.mk hb ?_
            refine Brn.mk (fun h3 => ?_) (fun h3 => ?_)
            · rw [within_bad, Bool.not_not] at h3
              refine AVle.int ?_
              exact (chk_bad3 (i := i) (by omega) h3).symm
            · rw [within_bad, Bool.not_not] at h3
              refine ⟨⟨i + 1, by omega, ?_⟩, by show 3 - (i + 1) < 3 - i; omega, ?_⟩
              · intro j hj
                rcases Nat.lt_succ_iff_lt_or_eq.1 hj with h4 | h4
                · exact hinv j h4
                · subst h4; exact h3
              · refine wk_of [(1, some 1), (21, some 21)] rfl ⟨rfl, rfl, ⟨?_, rfl⟩, trivial⟩ ⟨RowLe.fin rfl rfl rfl rfl rfl ?_, ⟨rfl, rfl, rfl, rfl, rfl, ?_⟩, trivial⟩
                · show AV.int .i64 (wr ((i : Int) + 1)) = AV.int .i64 ((i + 1 : Nat) : Int)
                  rw [wr_id (by omega) (by omega)]; rfl
                · repeat' first
                    | exact trivial
                    | exact ⟨by kernel_rfl, by kernel_rfl⟩
                    | refine ⟨?_, ?_⟩
                · intro a b _ _
                  exact Or.inr rfl
          · have h : ¬ (i : Int) < 3 := by simpa using h
            have hg := chk_good3 h1 h2 (fun j hj => hinv j (by omega))
            refine Brn.mk (fun h1 => ?_) (fun h1 => ?_)
            · refine AVle.int ?_
              rw [hg, if_pos (by rw [Bool.or_eq_true]; exact .inl h1)]
            · refine Brn.mk (fun h2 => ?_) (fun h2 => ?_)
              · refine AVle.int ?_
                rw [hg, if_pos (by rw [Bool.or_eq_true]; exact .inr h2)]
              · refine AVle.int ?_
                rw [hg, if_neg (by rw [Bool.or_eq_true]; rintro (h | h) <;> simp_all)]
  · trivial
end
end Go.Proofs.Ytjmidgfkocmihaa.Img
