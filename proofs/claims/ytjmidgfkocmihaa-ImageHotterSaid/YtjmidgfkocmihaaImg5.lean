/- Chapter 45: the reference's Temperature, Step, Level, Ticks; Div; Ticks. Conditions: none. -/
import Derived.Test.YtjmidgfkocmihaaImgR30b
namespace Go.Proofs.Ytjmidgfkocmihaa.Img
open Go Go.Proofs.Ytjmidgfkocmihaa.AI Go.Proofs
noncomputable section
set_option maxRecDepth 100000

theorem p1m : 1 ≤ 1048576 := by decide
theorem ok19 : EntOK Try.prog TE 19 sFloor := by
  refine ⟨callable_of Try.func19 (by kernel_rfl), fun args => ?_⟩
  unfold sFloor
  split
  · intro hb
    refine fn_ofF tabsOK specOK_nil mixed Try.func19 (by kernel_rfl) ?_
    refine Chk.mk hb (Chk.mk hb ?_)
    refine Brn.mk (fun h => ?_) (fun h => ?_)
    · refine AVle.int ?_
      rw [floorI, if_pos (of_decide_eq_true h)]
    · refine AVle.int ?_
      rw [floorI, if_neg (of_decide_eq_false h)]
  · trivial
def sTemp : Sp
  | [.int .i64 z] => .ok (.int .i64 (floorI z 65536))
  | _ => .no
theorem ok32 : EntOK Try.prog TE 32 sTemp := by
  refine ⟨callable_of Try.func32 (by kernel_rfl), fun args => ?_⟩
  unfold sTemp
  split
  · rename_i z
    refine fn_ofF tabsOK (specOK_cons okR30cel specOK_nil) mixed Try.func32 (by kernel_rfl) ?_
    refine Chk.mk ⟨isI_one (z := z) (by kernel_rfl) (by kernel_rfl), p1m⟩ ?_
    refine Chk.mk ?_ ?_
    · exact (by decide : (0 : Int) ≤ 0 ∧ (0 : Int) < ((1 : Nat) : Int))
    refine AVle.int ?_
    rfl
  · trivial
def step45 (g l h p a : Int) : Int := stepR 1 (fun _ => g) (fun _ => l) (fun _ _ => 0) (fun _ => h) (fun _ => p) a 0
def sStep16 : Sp
  | [.agg [.int .i64 g, .int .i64 l, .int .i64 _, .int .i64 _, .int .i64 _], .agg [.int .i64 h, .int .i64 p, .int .i64 a, .int .i64 _]] => .ok (.int .i64 (step45 g l h p a))
  | _ => .no
theorem ok16 : EntOK Try.prog TE 16 sStep16 := by
  refine ⟨callable_of Try.func16 (by kernel_rfl), fun args => ?_⟩
  unfold sStep16
  split
  · rename_i g l _ _ _ h p a _
    refine fn_ofF tabsOK (specOK_cons okR30step specOK_nil) mixed Try.func16 (by kernel_rfl) ?_
    refine Chk.mk ?_ ?_
    · exact ⟨⟨by kernel_rfl, by kernel_rfl, by kernel_rfl, by kernel_rfl, p1m⟩, isI_one (z := g) (by kernel_rfl) (by kernel_rfl), isI_one (z := l) (by kernel_rfl) (by kernel_rfl), isII_one (z := 0) (by kernel_rfl) (by kernel_rfl) (by kernel_rfl), isI_one (z := h) (by kernel_rfl) (by kernel_rfl), isI_one (z := p) (by kernel_rfl) (by kernel_rfl)⟩
    refine Chk.mk ?_ ?_
    · exact (by decide : (0 : Int) ≤ 0 ∧ (0 : Int) < ((1 : Nat) : Int))
    refine AVle.int ?_
    kernel_rfl
  · trivial
def sLev18 : Sp
  | [.agg [.int .i64 _, .int .i64 _, .int .i64 w, .int .i64 t, .int .i64 c], .int .i64 h, .int .i64 b] => .ok (.int .i64 (levI w t c (floorI h 65536) b))
  | _ => .no
theorem ok18 : EntOK Try.prog TE 18 sLev18 := by
  refine ⟨callable_of Try.func18 (by kernel_rfl), fun args => ?_⟩
  unfold sLev18
  split
  · rename_i _ _ w t c h b
    refine fn_ofF tabsOK (specOK_cons ok32 specOK_nil) mixed Try.func18 (by kernel_rfl) ?_
    have low : ¬ (b = 2 ∧ c ≤ floorI h 65536) → ∀ _ : ¬ t ≤ floorI h 65536, levI w t c (floorI h 65536) b = if w ≤ floorI h 65536 then 1 else 0 := fun h2 h3 => by rw [levI, if_neg h3, if_neg h2]
    have fin : ¬ (b = 2 ∧ c ≤ floorI h 65536) → ∀ _ : ¬ t ≤ floorI h 65536, ∀ x : Int, ((decide (w ≤ floorI h 65536) = true ∧ x = 1) ∨ (decide (w ≤ floorI h 65536) = false ∧ x = 0)) → x = levI w t c (floorI h 65536) b := by
      intro h1 h2 x h3
      rw [low h1 h2]
      rcases h3 with ⟨h3, rfl⟩ | ⟨h3, rfl⟩
      · rw [if_pos (of_decide_eq_true h3)]
      · rw [if_neg (of_decide_eq_false h3)]
    refine Brn.mk (fun h1 => ?_) (fun h1 => ?_)
    · refine AVle.int ?_
      rw [levI, if_pos (of_decide_eq_true h1)]
    · have h1 := of_decide_eq_false h1
      refine Brn.mk (fun h2 => ?_) (fun h2 => ?_)
      · have h2 := of_decide_eq_true h2
        refine Brn.mk (fun h3 => ?_) (fun h3 => ?_)
        · refine AVle.int ?_
          rw [levI, if_neg h1, if_pos ⟨h2, of_decide_eq_true h3⟩]
        · have h3 := of_decide_eq_false h3
          refine Brn.mk (fun h4 => ?_) (fun h4 => ?_)
          · exact AVle.int (fin (fun h => h3 h.2) h1 _ (.inl ⟨h4, rfl⟩))
          · exact AVle.int (fin (fun h => h3 h.2) h1 _ (.inr ⟨h4, rfl⟩))
      · have h2 := of_decide_eq_false h2
        refine Brn.mk (fun h4 => ?_) (fun h4 => ?_)
        · exact AVle.int (fin (fun h => h2 h.1) h1 _ (.inl ⟨h4, rfl⟩))
        · exact AVle.int (fin (fun h => h2 h.1) h1 _ (.inr ⟨h4, rfl⟩))
  · trivial

/-- How many ticks pass. -/
def ticks (st : Int → Int) (hot : Int → Bool) : Nat → Nat → Int → Int
  | 0, n, _ => n
  | k + 1, n, h => if hot (st h) then n else ticks st hot k (n + 1) (st h)
theorem ticks_hot {st : Int → Int} {hot : Int → Bool} {m i : Nat} {h : Int} (hi : i < m) (hh : hot (st h) = true) : ticks st hot (m - i) i h = i := by
  obtain ⟨k, hk⟩ : ∃ k, m - i = k + 1 := ⟨m - i - 1, by omega⟩
  rw [hk, ticks, if_pos hh]
theorem ticks_cool {st : Int → Int} {hot : Int → Bool} {m i : Nat} {h : Int} (hi : i < m) (hh : hot (st h) = false) : ticks st hot (m - i) i h = ticks st hot (m - (i + 1)) (i + 1) (st h) := by
  obtain ⟨k, hk⟩ : ∃ k, m - i = k + 1 := ⟨m - i - 1, by omega⟩
  rw [hk, ticks, if_neg (by rw [hh]; decide), show m - (i + 1) = k by omega]
def sTicks21 : Sp
  | [.agg [.int .i64 g, .int .i64 l, .int .i64 _, .int .i64 t, .int .i64 _], .agg [.int .i64 h, .int .i64 p, .int .i64 a, .int .i64 m]] =>
    .pre (m ≤ 4096) (.int .i64 (ticks (fun h => step45 g l h p a) (fun h => decide (t ≤ floorI h 65536)) m.toNat 0 h))
  | _ => .no
theorem ok21 : EntOK Try.prog TE 21 sTicks21 := by
  refine ⟨callable_of Try.func21 (by kernel_rfl), fun args => ?_⟩
  unfold sTicks21
  split
  · rename_i g l w t c h p a m
    intro hm
    refine fn_ofF tabsOK (specOK_cons ok16 (specOK_cons ok32 specOK_nil)) mixed Try.func21 (by kernel_rfl) ?_
    generalize hr : ticks (fun h => step45 g l h p a) (fun h => decide (t ≤ floorI h 65536)) m.toNat 0 h = r
    refine LoopOK.mk ⟨{ x : Nat × Int // x.1 ≤ m.toNat ∧ ticks (fun h => step45 g l h p a) (fun h => decide (t ≤ floorI h 65536)) (m.toNat - x.1) x.1 x.2 = r }, fun x => mkSt [(2, .loc 2 0), (3, .loc 3 0), (5, .int .i64 x.1.1)]
      [(2, ⟨23, 5, 1, fun _ j => nth [.int .i64 g, .int .i64 l, .int .i64 w, .int .i64 t, .int .i64 c] j, 0, true⟩), (3, ⟨32, 4, 1, fun _ j => nth [.int .i64 x.1.2, .int .i64 p, .int .i64 a, .int .i64 m] j, 0, true⟩)],
      fun x => m.toNat - x.1.1, ⟨⟨(0, h), by omega, hr⟩, ?_⟩, ?_⟩
    · refine wk_of [(2, some 2), (3, some 3)] rfl ⟨rfl, rfl, ⟨rfl, rfl⟩, trivial⟩ ⟨RowLe.fin rfl rfl rfl rfl rfl ?_, RowLe.fin rfl rfl rfl rfl rfl ?_, trivial⟩
      all_goals (repeat' first | exact trivial | exact ⟨by kernel_rfl, by kernel_rfl⟩ | refine ⟨?_, ?_⟩)
    · rintro ⟨⟨i, x⟩, hi, hx⟩
      refine Brn.mk (fun h => ?_) (fun h => ?_)
      · have h : (i : Int) < m := of_decide_eq_true h
        refine Brn.mk (fun h2 => ?_) (fun h2 => ?_)
        · refine AVle.int ?_
          exact (ticks_hot (m := m.toNat) (i := i) (h := x) (by omega) h2).symm.trans hx
        · refine ⟨⟨(i + 1, step45 g l x p a), by show i + 1 ≤ m.toNat; omega, ?_⟩, by show m.toNat - (i + 1) < m.toNat - i; omega, ?_⟩
          · exact (ticks_cool (m := m.toNat) (i := i) (h := x) (by omega) h2).symm.trans hx
          · refine wk_of [(2, some 2), (3, some 3)] rfl ⟨rfl, rfl, ⟨wrS (i := i) (by omega), rfl⟩, trivial⟩ ⟨RowLe.fin rfl rfl rfl rfl rfl ?_, RowLe.fin rfl rfl rfl rfl rfl ?_, trivial⟩
            all_goals (repeat' first | exact trivial | exact ⟨by kernel_rfl, by kernel_rfl⟩ | refine ⟨?_, ?_⟩)
      · have h : ¬ (i : Int) < m := of_decide_eq_false h
        refine AVle.int ?_
        have hi : i ≤ m.toNat := hi
        have hx : ticks (fun h => step45 g l h p a) (fun h => decide (t ≤ floorI h 65536)) (m.toNat - i) i x = r := hx
        rw [show m.toNat - i = 0 by omega, ticks] at hx
        exact hx
  · trivial
/-- The error of Ticks. -/
def tErr (c m : Int) : Int := if c = 0 then (if m < 0 ∨ 4096 < m then 3 else 0) else c
def sTicks20 : Sp
  | [.agg [.int .i64 g, .int .i64 l, .int .i64 w, .int .i64 t, .int .i64 c], .agg [.int .i64 h, .int .i64 p, .int .i64 a, .int .i64 m]] =>
    .ok (.tup [.int .i64 (okI (tErr (chk g l w t c) m) (ticks (fun h => stepI g l h p a) (fun h => decide (t ≤ sh16 h)) m.toNat 0 h)), .err (tErr (chk g l w t c) m)])
  | _ => .no
theorem ok20 : EntOK Try.prog TE 20 sTicks20 := by
  refine ⟨callable_of Try.func20 (by kernel_rfl), fun args => ?_⟩
  unfold sTicks20
  split
  · rename_i g l w t c h p a m
    refine fn_ofF tabsOK (specOK_cons ok13 (specOK_cons ok30 specOK_nil)) mixed Try.func20 (by kernel_rfl) ?_
    refine Brn.mk (fun h1 => ?_) (fun h1 => ?_)
    · have h1 : ¬ chk g l w t c = 0 := by simpa using h1
      have e : tErr (chk g l w t c) m = chk g l w t c := by rw [tErr, if_neg h1]
      exact AVle.tup2 (.int (by rw [okI, e, if_neg h1])) (.err e.symm)
    · have h1 : chk g l w t c = 0 := by simpa using h1
      have bad : (m < 0 ∨ 4096 < m) → AVle TE (.tup [.int .i64 0, .err 3]) (.tup [.int .i64 (okI (tErr (chk g l w t c) m) (ticks (fun h => stepI g l h p a) (fun h => decide (t ≤ sh16 h)) m.toNat 0 h)), .err (tErr (chk g l w t c) m)]) := fun h2 => by
        have e : tErr (chk g l w t c) m = 3 := by rw [tErr, if_pos h1, if_pos h2]
        exact AVle.tup2 (.int (by rw [okI, e, if_neg (by decide)])) (.err e.symm)
      refine Brn.mk (fun h2 => ?_) (fun h2 => ?_)
      · refine Chk.mk (by decide) ?_
        exact bad (.inl (of_decide_eq_true h2))
      · refine Brn.mk (fun h3 => ?_) (fun h3 => ?_)
        · refine Chk.mk (by decide) ?_
          exact bad (.inr (of_decide_eq_true h3))
        · have h2 : ¬ m < 0 := of_decide_eq_false h2
          have h3 : ¬ 4096 < m := of_decide_eq_false h3
          have e : tErr (chk g l w t c) m = 0 := by rw [tErr, if_pos h1, if_neg (by omega)]
          rw [e, okI, if_pos rfl]
          generalize hr : ticks (fun h => stepI g l h p a) (fun h => decide (t ≤ sh16 h)) m.toNat 0 h = r
          refine LoopOK.mk ⟨{ x : Nat × Int // x.1 ≤ m.toNat ∧ ticks (fun h => stepI g l h p a) (fun h => decide (t ≤ sh16 h)) (m.toNat - x.1) x.1 x.2 = r }, fun x => mkSt [(2, .loc 2 0), (3, .loc 3 0), (23, .int .i64 m), (24, .int .i64 x.1.1)]
            [(2, ⟨23, 5, 1, fun _ j => nth [.int .i64 g, .int .i64 l, .int .i64 w, .int .i64 t, .int .i64 c] j, 0, true⟩), (3, ⟨32, 4, 1, fun _ j => nth [.int .i64 x.1.2, .int .i64 p, .int .i64 a, .int .i64 m] j, 0, true⟩)],
            fun x => m.toNat - x.1.1, ⟨⟨(0, h), by omega, hr⟩, ?_⟩, ?_⟩
          · refine wk_of [(2, some 2), (3, some 3)] rfl ⟨rfl, rfl, ⟨rfl, rfl⟩, ⟨rfl, rfl⟩, trivial⟩ ⟨RowLe.fin rfl rfl rfl rfl rfl ?_, RowLe.fin rfl rfl rfl rfl rfl ?_, trivial⟩
            all_goals (repeat' first | exact trivial | exact ⟨by kernel_rfl, by kernel_rfl⟩ | refine ⟨?_, ?_⟩)
          · rintro ⟨⟨i, x⟩, hi, hx⟩
            refine Brn.mk (fun h => ?_) (fun h => ?_)
            · have h : (i : Int) < m := of_decide_eq_true h
              refine Chk.mk p16 ?_
              refine Brn.mk (fun h2 => ?_) (fun h2 => ?_)
              · refine AVle.tup2 (.int ?_) (.nilErr rfl)
                exact (ticks_hot (m := m.toNat) (i := i) (h := x) (by omega) h2).symm.trans hx
              · refine ⟨⟨(i + 1, stepI g l x p a), by show i + 1 ≤ m.toNat; omega, ?_⟩, by show m.toNat - (i + 1) < m.toNat - i; omega, ?_⟩
                · exact (ticks_cool (m := m.toNat) (i := i) (h := x) (by omega) h2).symm.trans hx
                · refine wk_of [(2, some 2), (3, some 3)] rfl ⟨rfl, rfl, ⟨rfl, rfl⟩, ⟨wrS (i := i) (by omega), rfl⟩, trivial⟩ ⟨RowLe.fin rfl rfl rfl rfl rfl ?_, RowLe.fin rfl rfl rfl rfl rfl ?_, trivial⟩
                  all_goals (repeat' first | exact trivial | exact ⟨by kernel_rfl, by kernel_rfl⟩ | refine ⟨?_, ?_⟩)
            · have h : ¬ (i : Int) < m := of_decide_eq_false h
              refine AVle.tup2 (.int ?_) (.nilErr rfl)
              have hi : i ≤ m.toNat := hi
              have hx : ticks (fun h => stepI g l h p a) (fun h => decide (t ≤ sh16 h)) (m.toNat - i) i x = r := hx
              rw [show m.toNat - i = 0 by omega, ticks] at hx
              show m = r
              omega
  · trivial
end
end Go.Proofs.Ytjmidgfkocmihaa.Img
