/- Chapter 45: a tick, a level, the example. Conditions: none. -/
import Derived.Test.YtjmidgfkocmihaaImg2
namespace Go.Proofs.Ytjmidgfkocmihaa.Img
open Go Go.Proofs.Ytjmidgfkocmihaa.AI Go.Proofs
noncomputable section
set_option maxRecDepth 100000
theorem p16 : (0 : Int) ≤ 16 := by decide

/-- A tick as the code computes it. -/
def stepI (g l h p a : Int) : Int :=
  clip (wr (wr (clip h (-1099511627776) 1099511627776 + (wr (l * wr (wr (clip a (-8388608) 8388608 * 2 ^ (min (16 : Int).toNat 64)) - clip h (-1099511627776) 1099511627776))).fdiv (2 ^ (min (16 : Int).toNat 64))) + wr (g * clip p 0 1073741824))) (-1099511627776) 1099511627776
def sStep30 : Sp
  | [.agg [.int .i64 g, .int .i64 l, .int .i64 _, .int .i64 _, .int .i64 _], .agg [.int .i64 h, .int .i64 p, .int .i64 a, .int .i64 _]] => .ok (.int .i64 (stepI g l h p a))
  | _ => .no
theorem ok30 : EntOK Try.prog TE 30 sStep30 := by
  refine ⟨callable_of Try.func30 (by kernel_rfl), fun args => ?_⟩
  unfold sStep30
  split
  · refine fn_ofF tabsOK (specOK_cons ok39 specOK_nil) mixed Try.func30 (by kernel_rfl) ?_
    refine Chk.mk p16 (Chk.mk p16 ?_)
    refine AVle.int ?_
    kernel_rfl
  · trivial
def okI (c x : Int) : Int := if c = 0 then x else 0
def sStep15 : Sp
  | [.agg [.int .i64 g, .int .i64 l, .int .i64 w, .int .i64 t, .int .i64 c], .agg [.int .i64 h, .int .i64 p, .int .i64 a, .int .i64 _]] =>
    .ok (.tup [.int .i64 (okI (chk g l w t c) (stepI g l h p a)), .err (chk g l w t c)])
  | _ => .no
theorem ok15 : EntOK Try.prog TE 15 sStep15 := by
  refine ⟨callable_of Try.func15 (by kernel_rfl), fun args => ?_⟩
  unfold sStep15
  split
  · rename_i g l w t c h p a _
    refine fn_ofF tabsOK (specOK_cons ok13 (specOK_cons ok30 specOK_nil)) mixed Try.func15 (by kernel_rfl) ?_
    refine Brn.mk (fun h1 => ?_) (fun h1 => ?_)
    · have h1 : ¬ chk g l w t c = 0 := by simpa using h1
      exact AVle.tup2 (.int (by rw [okI, if_neg h1])) (.err rfl)
    · have h1 : chk g l w t c = 0 := by simpa using h1
      exact AVle.tup2 (.int (by rw [okI, if_pos h1])) (.nilErr h1)
  · trivial
def sh16 (n : Int) : Int := n.fdiv (2 ^ (min (16 : Int).toNat 64))
/-- A level as the code computes it. -/
def levI (w t c x b : Int) : Int :=
  if t ≤ x then 2 else if b = 2 ∧ c ≤ x then 2 else if w ≤ x then 1 else 0
def sLev17 : Sp
  | [.agg [.int .i64 g, .int .i64 l, .int .i64 w, .int .i64 t, .int .i64 c], .int .i64 h, .int .i64 b] =>
    .ok (.tup [.int .i64 (okI (chk g l w t c) (levI w t c (sh16 h) b)), .err (chk g l w t c)])
  | _ => .no
theorem ok17 : EntOK Try.prog TE 17 sLev17 := by
  refine ⟨callable_of Try.func17 (by kernel_rfl), fun args => ?_⟩
  unfold sLev17
  split
  · rename_i g l w t c h b
    refine fn_ofF tabsOK (specOK_cons ok13 specOK_nil) mixed Try.func17 (by kernel_rfl) ?_
    refine Brn.mk (fun h1 => ?_) (fun h1 => ?_)
    · have h1 : ¬ chk g l w t c = 0 := by simpa using h1
      exact AVle.tup2 (.int (by rw [okI, if_neg h1])) (.err rfl)
    · have h1 : chk g l w t c = 0 := by simpa using h1
      refine Chk.mk p16 ?_
      have low : ¬ (b = 2 ∧ c ≤ sh16 h) → ∀ _ : ¬ t ≤ sh16 h, levI w t c (sh16 h) b = if w ≤ sh16 h then 1 else 0 := fun h2 h3 => by rw [levI, if_neg h3, if_neg h2]
      refine Brn.mk (fun h2 => ?_) (fun h2 => ?_)
      · have h2 : t ≤ sh16 h := of_decide_eq_true h2
        exact AVle.tup2 (.int (by rw [okI, if_pos h1, levI, if_pos h2])) (.nilErr h1)
      · have h2 : ¬ t ≤ sh16 h := of_decide_eq_false h2
        refine Brn.mk (fun h3 => ?_) (fun h3 => ?_)
        · have h3 : b = 2 := of_decide_eq_true h3
          refine Brn.mk (fun h4 => ?_) (fun h4 => ?_)
          · have h4 : c ≤ sh16 h := of_decide_eq_true h4
            exact AVle.tup2 (.int (by rw [okI, if_pos h1, levI, if_neg h2, if_pos ⟨h3, h4⟩])) (.nilErr h1)
          · have h4 : ¬ c ≤ sh16 h := of_decide_eq_false h4
            refine Brn.mk (fun h5 => ?_) (fun h5 => ?_)
            · have h5 : w ≤ sh16 h := of_decide_eq_true h5
              exact AVle.tup2 (.int (by rw [okI, if_pos h1, low (fun h => h4 h.2) h2, if_pos h5])) (.nilErr h1)
            · have h5 : ¬ w ≤ sh16 h := of_decide_eq_false h5
              exact AVle.tup2 (.int (by rw [okI, if_pos h1, low (fun h => h4 h.2) h2, if_neg h5])) (.nilErr h1)
        · have h3 : ¬ b = 2 := of_decide_eq_false h3
          refine Brn.mk (fun h5 => ?_) (fun h5 => ?_)
          · have h5 : w ≤ sh16 h := of_decide_eq_true h5
            exact AVle.tup2 (.int (by rw [okI, if_pos h1, low (fun h => h3 h.1) h2, if_pos h5])) (.nilErr h1)
          · have h5 : ¬ w ≤ sh16 h := of_decide_eq_false h5
            exact AVle.tup2 (.int (by rw [okI, if_pos h1, low (fun h => h3 h.1) h2, if_neg h5])) (.nilErr h1)
  · trivial
def sEx : Sp
  | [] => .ok (.agg [.int .i64 2, .int .i64 4096, .int .i64 80, .int .i64 100, .int .i64 60])
  | _ => .no
theorem ok28 : EntOK Try.prog TE 28 sEx := by
  refine ⟨callable_of Try.func28 (by kernel_rfl), fun args => ?_⟩
  unfold sEx
  split
  · refine fn_ofF tabsOK specOK_nil mixed Try.func28 (by kernel_rfl) ?_
    exact AVle.agg rfl
  · trivial
def sAwake : Sp
  | [] => .okb true
  | _ => .no
theorem ok11 : EntOK Try.prog TE 11 sAwake := by
  refine ⟨callable_of Try.func11 (by kernel_rfl), fun args => ?_⟩
  unfold sAwake
  split
  · refine fn_ofF tabsOK (specOK_cons ok28 (specOK_cons ok15 (specOK_cons ok17 specOK_nil))) mixed Try.func11 (by kernel_rfl) ?_
    refine Brn.mk (fun h1 => ?_) (fun h1 => ?_)
    · refine Brn.mk (fun h2 => ?_) (fun h2 => ?_)
      · refine Brn.mk (fun h3 => ?_) (fun h3 => ?_)
        · exact AVle.bit (by decide +kernel)
        · exact absurd h3 (by decide +kernel)
      · exact absurd h2 (by decide +kernel)
    · exact absurd h1 (by decide +kernel)
  · trivial
end
end Go.Proofs.Ytjmidgfkocmihaa.Img
