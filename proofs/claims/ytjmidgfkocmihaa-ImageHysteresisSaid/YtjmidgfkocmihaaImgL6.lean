/- Chapter 45: in a sequence of heats the level 2 ends only below Clear, and begins only at Trip or above. Conditions: none. -/
import Derived.Test.YtjmidgfkocmihaaImgB
import Derived.Test.YtjmidgfkocmihaaRows
import Derived.ProofKit
namespace Go.Proofs.Ytjmidgfkocmihaa
open Go Go.Proofs.Ytjmidgfkocmihaa.AI Go.Proofs Go.Proofs.Ytjmidgfkocmihaa.Img Go.ChangeShapes Go.WideShapes Go.ChangeAt Go.RowKit
noncomputable section
set_option maxRecDepth 100000

theorem lev_cases (w t c x b : Int) : (levI w t c x b = 2 ∧ (t ≤ x ∨ (b = 2 ∧ c ≤ x))) ∨ (levI w t c x b = 1 ∧ ¬ t ≤ x ∧ ¬ (b = 2 ∧ c ≤ x) ∧ w ≤ x) ∨ (levI w t c x b = 0 ∧ ¬ t ≤ x ∧ ¬ (b = 2 ∧ c ≤ x) ∧ ¬ w ≤ x) := by
  unfold levI
  split
  · omega
  · split
    · omega
    · split <;> omega
def nx (g lo w t c x b : Int) : Int := okI (chk g lo w t c) (levI w t c x b)
theorem nx_cases {g lo w t c x b : Int} (h : chk g lo w t c = 0) : (nx g lo w t c x b = 2 ∧ (t ≤ x ∨ (b = 2 ∧ c ≤ x))) ∨ (nx g lo w t c x b = 1 ∧ ¬ t ≤ x ∧ ¬ (b = 2 ∧ c ≤ x) ∧ w ≤ x) ∨ (nx g lo w t c x b = 0 ∧ ¬ t ≤ x ∧ ¬ (b = 2 ∧ c ≤ x) ∧ ¬ w ≤ x) := by
  rw [nx, okI, if_pos h]
  exact lev_cases ..
set_option maxHeartbeats 4000000 in
theorem law6 (avs : List AV) (H : ArgAll E0 9 [23, 40] avs) : FnOK Try.prog TE 6 avs (.bit true) := by
  obtain ⟨l, m, hl, hm, rfl⟩ := argAll2 H
  obtain ⟨g, lo, w, t, c, rfl, _⟩ := open23 hl
  obtain ⟨n, f, rfl, hf, hr, _⟩ := openS hm
  show FnOK Try.prog TE 6 [.agg [.int .i64 g, .int .i64 lo, .int .i64 w, .int .i64 t, .int .i64 c], .sl 1 n f] (.bit true)
  refine FnOK.args ?_ (m := [.agg [.int .i64 g, .int .i64 lo, .int .i64 w, .int .i64 t, .int .i64 c], .sl 1 n fun i _ => .int .i64 (vI f i)]) ⟨.refl, ints_le rfl hf, trivial⟩
  generalize vI f = hs at hr
  clear H hl hm hf
  refine fn_ofF tabsOK (specOK_cons ok11 (specOK_cons ok13 (specOK_cons ok17 (specOK_cons ok19 specOK_nil)))) mixed Try.func6 (by kernel_rfl) ?_
  refine Brn.mk (fun h1 => AVle.bit rfl) (fun h1 => ?_)
  have h1 : chk g lo w t c = 0 := by simpa using h1
  refine Brn.mk (fun h2 => AVle.bit rfl) (fun h2 => ?_)
  have h2 : ¬ 300 < (n : Int) := of_decide_eq_false h2
  refine LoopOK.mk ⟨{ x : Nat × Int // x.1 ≤ n ∧ 0 ≤ x.2 ∧ x.2 ≤ 2 }, fun x => mkSt [(1, .sl 1 n fun i _ => .int .i64 (hs i)), (2, .loc 2 0), (5, .int .i64 x.1.2), (6, .int .i64 x.1.1)]
      [(2, ⟨23, 5, 1, fun _ j => nth [.int .i64 g, .int .i64 lo, .int .i64 w, .int .i64 t, .int .i64 c] j, 0, true⟩)],
      fun x => n - x.1.1, ⟨⟨(0, 0), by omega⟩, ?_⟩, ?_⟩
  · refine wk_of [(2, some 2)] rfl ⟨⟨rfl, rfl⟩, rfl, ⟨rfl, rfl⟩, ⟨rfl, rfl⟩, trivial⟩ ⟨RowLe.fin rfl rfl rfl rfl rfl ?_, trivial⟩
    repeat' first | exact trivial | exact ⟨by kernel_rfl, by kernel_rfl⟩ | refine ⟨?_, ?_⟩
  · rintro ⟨⟨i, b⟩, hi, hb1, hb2⟩
    have hi : i ≤ n := hi
    have hb1 : 0 ≤ b := hb1
    have hb2 : b ≤ 2 := hb2
    refine Brn.mk (fun h => ?_) (fun h => AVle.bit rfl)
    have h : (i : Int) < n := of_decide_eq_true h
    have hb : (0 : Int) ≤ (i : Int) ∧ (i : Int) < (n : Int) := ⟨by omega, h⟩
    refine Chk.mk hb (Chk.mk hb (Chk.mk p65536 ?_))
    have key := nx_cases (x := sh16 (hs i)) (b := b) h1
    have hx := floor_sh (hr i (by omega))
    refine Brn.mk (fun h3 => absurd h3 (by rw [h1]; decide)) (fun _ => ?_)
    refine Brn.mk (fun h3 => absurd (show nx g lo w t c (sh16 (hs i)) b < 0 from of_decide_eq_true h3) (by omega)) (fun _ => ?_)
    refine Brn.mk (fun h3 => absurd (show 2 < nx g lo w t c (sh16 (hs i)) b from of_decide_eq_true h3) (by omega)) (fun _ => ?_)
    unfold nx at key
    have go : ∀ L : Int, (0 ≤ L ∧ L ≤ 2) → ∃ x : { x : Nat × Int // x.1 ≤ n ∧ 0 ≤ x.2 ∧ x.2 ≤ 2 }, n - x.1.1 < n - i ∧ x.1 = (i + 1, L) := fun L hL => ⟨⟨(i + 1, L), by show i + 1 ≤ n; omega, hL⟩, by show n - (i + 1) < n - i; omega, rfl⟩
    obtain ⟨nextI, hlt, hI⟩ := go (okI (chk g lo w t c) (levI w t c (sh16 (hs i)) b)) (by omega)
    repeat' refine Brn.mk (fun _ => ?_) (fun _ => ?_)
    all_goals first
      | (refine ⟨nextI, hlt, ?_⟩
         obtain ⟨⟨_, _⟩, _⟩ := nextI
         cases hI
         refine wk_of [(2, some 2)] rfl ⟨⟨rfl, rfl⟩, rfl, ⟨rfl, rfl⟩, ⟨wrS (i := i) (by omega), rfl⟩, trivial⟩ ⟨RowLe.fin rfl rfl rfl rfl rfl ?_, trivial⟩
         repeat' first | exact trivial | exact ⟨by kernel_rfl, by kernel_rfl⟩ | refine ⟨?_, ?_⟩)
      | (exfalso
         simp only [decide_eq_true_eq, decide_eq_false_iff_not, Int.toNat_natCast, hx, Bool.not_eq_true', Bool.not_eq_false'] at *
         omega)

theorem lifted6 (os : Os) (started : os.Started) (H : Type) (enc : TypeId × Value → H) :
    ReturnsInHanded {} Try.checked os 6 .any (Rows.imageHysteresisSpec.pre6 enc Try.prog Try.f6 Rows.imageHysteresisRow.domain false) (Rows.imageHysteresisSpec.post enc Try.prog Try.f6 false true false false) := by
  refine returnsInHanded_of_change (C := Try.checked) own0 started (by kernel_rfl) Try.func6
    (ChangeSpec.witness6 (enc := enc) (C := Try.checked) false ⟨#[], #[.agg #[.int .i64 0, .int .i64 0, .int .i64 0, .int .i64 0, .int .i64 0], .slice none 0 0], []⟩ 8 (by kernel_rfl) (by kernel_rfl) (by kernel_rfl) (by kernel_rfl)) ?_
  intro W base args ds gs before hval hW _ _
  exact law_contract tabE0 (d := 9) (tb := 4) [23, 40] (by kernel_rfl) (by kernel_rfl) (by kernel_rfl) rfl laidOut0 (by kernel_rfl) (by kernel_rfl)
    (fun H ds h => match ds, h with | [_, _], _ => rfl) law6 hval hW

theorem ImageHysteresis_proved : Rows.ImageHysteresisSaid :=
  OpenClaim.holds_of_wide (p := Try.pinned) (s := Rows.imageHysteresisSpec) (c := Rows.imageHysteresisRow) 6 Try.f6 rfl rfl rfl rfl rfl rfl rfl ⟨rfl, rfl, rfl, rfl, rfl⟩ rfl rfl rfl rfl rfl (by kernel_rfl) Try.func6 (by kernel_rfl)
    (of_decide_eq_true (by kernel_rfl)) (by unfold Func.isWrapper; rw [if_neg (of_decide_eq_false (by kernel_rfl))]; exact ⟨rfl, rfl⟩)
    (fun os started H enc _ => lifted6 os started H enc)
end
end Go.Proofs.Ytjmidgfkocmihaa
