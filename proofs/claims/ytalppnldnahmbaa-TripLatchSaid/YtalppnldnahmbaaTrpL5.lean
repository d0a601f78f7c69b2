/- Chapter 44: once Off is true, it stays true, and Cause does not change, whatever the inputs are. Conditions: none. -/
import Derived.Test.YtalppnldnahmbaaTrp4
import Derived.Test.YtalppnldnahmbaaRows
import Derived.ProofKit
namespace Go.Proofs.Ytalppnldnahmbaa
open Go Go.Proofs.Ytalppnldnahmbaa.AI Go.Proofs Go.Proofs.Ytalppnldnahmbaa.Img Go.ChangeShapes Go.WideShapes Go.ChangeAt Go.RowKit
noncomputable section
set_option maxRecDepth 100000

theorem latch (cu lo hi re lt ht : Int) (s : TS) (x : TI) :
    (s.o = true → (tstepI cu lo hi re lt ht s x).o = true ∧ (tstepI cu lo hi re lt ht s x).a = max 0 (min s.a 4)) ∧
    ((tstepI cu lo hi re lt ht s x).o = true → s.o = false → 1 ≤ (tstepI cu lo hi re lt ht s x).a ∧ (tstepI cu lo hi re lt ht s x).a ≤ 4 ∧ (tstepI cu lo hi re lt ht s x).b = 0) := by
  unfold tstepI tstep
  generalize decide (x.l < lo) = low
  generalize decide (hi < x.l) = high
  generalize over3 cu x.x0 x.x1 x.x2 = ov
  generalize any6 x.d0 x.d1 x.d2 x.d3 x.d4 x.d5 = ds
  have hc : 0 ≤ clip s.a 0 4 ∧ clip s.a 0 4 ≤ 4 := clip_range (by decide)
  have ec : clip s.a 0 4 = max 0 (min s.a 4) := by unfold clip; omega
  constructor
  · intro ho
    rw [tstep1, if_pos (show (tclip lt ht s).o = true from ho)]
    exact ⟨ho, ec⟩
  · intro h1 ho
    rw [tstep1, if_neg (by rw [show (tclip lt ht s).o = false from ho]; decide)] at h1 ⊢
    split at h1
    · rename_i ha
      rw [if_pos ha]
      have ha : ¬ clip s.a 0 4 = 0 := ha
      refine ⟨?_, hc.2, of_decide_eq_true h1⟩
      show 1 ≤ clip s.a 0 4
      omega
    · rename_i ha
      rw [if_neg ha]
      split at h1
      · rename_i hk
        rw [if_pos hk]
        have hr := tcause_range ov ds (cnt (tclip lt ht s).c low lt) (cnt (tclip lt ht s).d high ht) lt ht
        refine ⟨?_, hr.2, of_decide_eq_true h1⟩
        show 1 ≤ tcause ov ds (cnt (tclip lt ht s).c low lt) (cnt (tclip lt ht s).d high ht) lt ht
        omega
      · cases h1
set_option maxHeartbeats 4000000 in
theorem law5 (avs : List AV) (H : ArgAll E0 9 [23, 32, 41] avs) : FnOK Try.prog TE 5 avs (.bit true) := by
  obtain ⟨l, m, o, hl, hm, ho, rfl⟩ := argAll3 H
  obtain ⟨cu, lo, hi, re, lt, ht, rfl, _⟩ := openC hl
  obtain ⟨s0, rfl, _⟩ := openTS hm
  obtain ⟨n, f, x, rfl, hx, _⟩ := openTIs ho
  show FnOK Try.prog TE 5 [.agg [.int .i64 cu, .int .i64 lo, .int .i64 hi, .int .i64 re, .int .i64 lt, .int .i64 ht], .agg [.int .i64 s0.a, .int .i64 s0.b, .int .i64 s0.c, .int .i64 s0.d, .bit s0.o], .sl 10 n f] (.bit true)
  refine FnOK.args ?_ (m := [.agg [.int .i64 cu, .int .i64 lo, .int .i64 hi, .int .i64 re, .int .i64 lt, .int .i64 ht], .agg [.int .i64 s0.a, .int .i64 s0.b, .int .i64 s0.c, .int .i64 s0.d, .bit s0.o], .sl 10 n fun i j => nth (x i).c j]) ⟨.refl, .refl, tis_le hx, trivial⟩
  clear H hl hm ho hx
  refine fn_ofF tabsOK (specOK_cons ok12 (specOK_cons ok14 (specOK_cons ok16 (specOK_cons ok18 specOK_nil)))) mixed Try.func5 (by kernel_rfl) ?_
  refine Brn.mk (fun h1 => AVle.bit rfl) (fun h1 => ?_)
  have h1 : tchk cu lo hi re lt ht = 0 := ndF h1
  refine Brn.mk (fun h2 => AVle.bit rfl) (fun h2 => ?_)
  have h2 : ¬ 300 < (n : Int) := of_decide_eq_false h2
  refine LoopOK.mk ⟨{ y : Nat × TS // y.1 ≤ n }, fun y => mkSt [(2, .sl 10 n fun i j => nth (x i).c j), (3, .loc 3 0), (4, .loc 4 0), (7, .int .i64 y.1.1)]
      [(3, ⟨23, 6, 1, fun _ j => nth [.int .i64 cu, .int .i64 lo, .int .i64 hi, .int .i64 re, .int .i64 lt, .int .i64 ht] j, 0, true⟩), (4, ⟨32, 5, 1, fun _ j => nth y.1.2.l j, 0, true⟩)],
      fun y => n - y.1.1, ⟨⟨(0, s0), by omega⟩, ?_⟩, ?_⟩
  · refine wk_of [(3, some 3), (4, some 4)] rfl ⟨⟨rfl, rfl⟩, rfl, rfl, ⟨rfl, rfl⟩, trivial⟩ ⟨RowLe.fin rfl rfl rfl rfl rfl ?_, RowLe.fin rfl rfl rfl rfl rfl ?_, trivial⟩
    all_goals (repeat' first | exact trivial | exact ⟨by kernel_rfl, by kernel_rfl⟩ | exact Or.inr (by kernel_rfl) | (show _ = _; kernel_rfl) | refine ⟨?_, ?_⟩)
  rintro ⟨⟨i, s⟩, hin⟩
  have hin : i ≤ n := hin
  refine Brn.mk (fun h => ?_) (fun h => AVle.bit rfl)
  have h : (i : Int) < n := of_decide_eq_true h
  have hb : (0 : Int) ≤ (i : Int) ∧ (i : Int) < (n : Int) := ⟨by omega, h⟩
  refine Chk.mk hb ?_
  obtain ⟨k1, k2⟩ := latch cu lo hi re lt ht s (x i)
  have e : ∀ t, okT (tchk cu lo hi re lt ht) t = t := fun t => by rw [okT, if_pos h1]
  have k1' : s.o = true → (okT (tchk cu lo hi re lt ht) (tstepI cu lo hi re lt ht s (x i))).o = true ∧ (okT (tchk cu lo hi re lt ht) (tstepI cu lo hi re lt ht s (x i))).a = max 0 (min s.a 4) := by rw [e]; exact k1
  have k2' : (okT (tchk cu lo hi re lt ht) (tstepI cu lo hi re lt ht s (x i))).o = true → s.o = false → 1 ≤ (okT (tchk cu lo hi re lt ht) (tstepI cu lo hi re lt ht s (x i))).a ∧ (okT (tchk cu lo hi re lt ht) (tstepI cu lo hi re lt ht s (x i))).a ≤ 4 ∧ (okT (tchk cu lo hi re lt ht) (tstepI cu lo hi re lt ht s (x i))).b = 0 := by rw [e]; exact k2
  refine Brn.mk (fun q => absurd h1 (ndT q)) (fun _ => ?_)
  refine Brn.mk (fun so => ?_) (fun so => ?_)
  · have so : s.o = true := so
    obtain ⟨a1, a2⟩ := k1' so
    refine Brn.mk (fun q => absurd (show (!(okT (tchk cu lo hi re lt ht) (tstepI cu lo hi re lt ht s (x i))).o) = true from q) (by rw [a1]; decide)) (fun _ => ?_)
    refine Brn.mk (fun q => absurd a2 (ndT q)) (fun _ => ?_)
    refine Brn.mk (fun _ => ?_) (fun q => absurd (show true = false from a1.symm.trans q) (by decide))
    refine Brn.mk (fun q => absurd so (by simpa using q)) (fun _ => ?_)
    refine ⟨⟨(i + 1, okT (tchk cu lo hi re lt ht) (tstepI cu lo hi re lt ht s (x i))), by show i + 1 ≤ n; omega⟩, by show n - (i + 1) < n - i; omega, ?_⟩
    refine wk_of [(3, some 3), (4, some 4)] rfl ⟨⟨rfl, rfl⟩, rfl, rfl, ⟨wrS (i := i) (by omega), rfl⟩, trivial⟩ ⟨RowLe.fin rfl rfl rfl rfl rfl ?_, RowLe.fin rfl rfl rfl rfl rfl ?_, trivial⟩
    all_goals (repeat' first | exact trivial | exact ⟨by kernel_rfl, by kernel_rfl⟩ | exact Or.inr (by kernel_rfl) | (show _ = _; kernel_rfl) | refine ⟨?_, ?_⟩)
  · have so : s.o = false := so
    refine Brn.mk (fun to => ?_) (fun to => ?_)
    · obtain ⟨a1, a2, a3⟩ := k2' to so
      refine Brn.mk (fun _ => ?_) (fun q => absurd q (by show ¬ (!s.o) = false; rw [so]; decide))
      refine Brn.mk (fun q => absurd a1 (Int.not_le.2 (of_decide_eq_true q))) (fun _ => ?_)
      refine Brn.mk (fun q => absurd a2 (Int.not_le.2 (of_decide_eq_true q))) (fun _ => ?_)
      refine Brn.mk (fun q => absurd a3 (ndT q)) (fun _ => ?_)
      refine ⟨⟨(i + 1, okT (tchk cu lo hi re lt ht) (tstepI cu lo hi re lt ht s (x i))), by show i + 1 ≤ n; omega⟩, by show n - (i + 1) < n - i; omega, ?_⟩
      refine wk_of [(3, some 3), (4, some 4)] rfl ⟨⟨rfl, rfl⟩, rfl, rfl, ⟨wrS (i := i) (by omega), rfl⟩, trivial⟩ ⟨RowLe.fin rfl rfl rfl rfl rfl ?_, RowLe.fin rfl rfl rfl rfl rfl ?_, trivial⟩
      all_goals (repeat' first | exact trivial | exact ⟨by kernel_rfl, by kernel_rfl⟩ | exact Or.inr (by kernel_rfl) | (show _ = _; kernel_rfl) | refine ⟨?_, ?_⟩)
    · refine ⟨⟨(i + 1, okT (tchk cu lo hi re lt ht) (tstepI cu lo hi re lt ht s (x i))), by show i + 1 ≤ n; omega⟩, by show n - (i + 1) < n - i; omega, ?_⟩
      refine wk_of [(3, some 3), (4, some 4)] rfl ⟨⟨rfl, rfl⟩, rfl, rfl, ⟨wrS (i := i) (by omega), rfl⟩, trivial⟩ ⟨RowLe.fin rfl rfl rfl rfl rfl ?_, RowLe.fin rfl rfl rfl rfl rfl ?_, trivial⟩
      all_goals (repeat' first | exact trivial | exact ⟨by kernel_rfl, by kernel_rfl⟩ | exact Or.inr (by kernel_rfl) | (show _ = _; kernel_rfl) | refine ⟨?_, ?_⟩)

theorem lifted5 (os : Os) (started : os.Started) (H : Type) (enc : TypeId × Value → H) :
    ReturnsInHanded {} Try.checked os 5 .any (Rows.tripLatchSpec.pre6 enc Try.prog Try.f5 Rows.tripLatchRow.domain false) (Rows.tripLatchSpec.post enc Try.prog Try.f5 false true false false) := by
  refine returnsInHanded_of_change (C := Try.checked) own0 started (by kernel_rfl) Try.func5
    (ChangeSpec.witness6 (enc := enc) (C := Try.checked) false ⟨#[], #[.agg #[.int .i64 0, .int .i64 0, .int .i64 0, .int .i64 0, .int .i64 0, .int .i64 0], .agg #[.int .i64 0, .int .i64 0, .int .i64 0, .int .i64 0, .bool false], .slice none 0 0], []⟩ 8 (by kernel_rfl) (by kernel_rfl) (by kernel_rfl) (by kernel_rfl)) ?_
  intro W base args ds gs before hval hW _ _
  exact law_contract tabE0 (d := 9) (tb := 4) [23, 32, 41] (by kernel_rfl) (by kernel_rfl) (by kernel_rfl) rfl laidOut0 (by kernel_rfl) (by kernel_rfl)
    (fun H ds h => match ds, h with | [_, _, _], _ => rfl) law5 hval hW

theorem TripLatch_proved : Rows.TripLatchSaid :=
  OpenClaim.holds_of_wide (p := Try.pinned) (s := Rows.tripLatchSpec) (c := Rows.tripLatchRow) 5 Try.f5 rfl rfl rfl rfl rfl rfl rfl ⟨rfl, rfl, rfl, rfl, rfl⟩ rfl rfl rfl rfl rfl (by kernel_rfl) Try.func5 (by kernel_rfl)
    (of_decide_eq_true (by kernel_rfl)) (by unfold Func.isWrapper; rw [if_neg (of_decide_eq_false (by kernel_rfl))]; exact ⟨rfl, rfl⟩)
    (fun os started H enc _ => lifted5 os started H enc)
end
end Go.Proofs.Ytalppnldnahmbaa
