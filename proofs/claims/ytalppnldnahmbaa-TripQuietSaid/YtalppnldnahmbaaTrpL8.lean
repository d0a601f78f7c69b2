/- Chapter 44: inputs within all thresholds never lead to a trip. Conditions: none. -/
import Derived.Test.YtalppnldnahmbaaTrp5
import Derived.Test.YtalppnldnahmbaaRows
import Derived.ProofKit
namespace Go.Proofs.Ytalppnldnahmbaa
open Go Go.Proofs.Ytalppnldnahmbaa.AI Go.Proofs Go.Proofs.Ytalppnldnahmbaa.Img Go.ChangeShapes Go.WideShapes Go.ChangeAt Go.RowKit
noncomputable section
set_option maxRecDepth 100000

theorem neg_id {cu : Int} (h : 0 ≤ cu ∧ cu ≤ 2097152) : wr (0 - cu) = -cu := by rw [wr_id (by omega) (by omega)]; omega
theorem ovr_no {cu x : Int} (h : 0 ≤ cu ∧ cu ≤ 2097152) (h1 : -cu ≤ x) (h2 : x ≤ cu) : ovr cu x = false := by
  rw [ovr, neg_id h, decide_eq_false (by omega), decide_eq_false (by omega)]; rfl
theorem calm_step {cu lo hi re lt ht x0 x1 x2 l : Int} {ds : Bool} (h : tchk cu lo hi re lt ht = 0) (h0 : ovr cu x0 = false) (h1 : ovr cu x1 = false) (h2 : ovr cu x2 = false) (h3 : lo ≤ l) (h4 : l ≤ hi) (hd : ds = false) :
    tstep cu lo hi re lt ht .zero x0 x1 x2 l ds = .zero := by
  obtain ⟨_, _, _, k1, k2⟩ := tchk_zero h
  have e1 : clip 0 0 lt = 0 := by unfold clip; omega
  have e2 : clip 0 0 ht = 0 := by unfold clip; omega
  have e3 : tclip lt ht .zero = .zero := by
    show (⟨clip 0 0 4, clip 0 0 64, clip 0 0 lt, clip 0 0 ht, false⟩ : TS) = _
    rw [e1, e2]; rfl
  have e4 : over3 cu x0 x1 x2 = false := by rw [over3, h0, h1, h2]; rfl
  rw [tstep, e3, e4, decide_eq_false (by omega), decide_eq_false (by omega), hd, tstep1, if_neg (by decide), if_neg (by decide), if_neg]
  · rfl
  · show ¬ ¬ tcause false false 0 0 lt ht = 0
    rw [tcause, if_neg (by decide), if_neg (by decide), if_neg (by omega), if_neg (by omega)]
    simp
def clc (cu z : Int) : Int := max (wr (0 - cu)) (min z cu)
def curI (cu : Int) (x : TI) (k j : Nat) : Int := if j < k then clc cu (three x.x0 x.x1 x.x2 j) else 0
def cellsI (cu lo hi : Int) (x : TI) (k : Nat) : List AV := [.int .i64 (curI cu x k 0), .int .i64 (curI cu x k 1), .int .i64 (curI cu x k 2), .int .i64 (max lo (min x.l hi)), .bit false, .bit false, .bit false, .bit false, .bit false, .bit false]
set_option maxHeartbeats 4000000 in
theorem law8 (avs : List AV) (H : ArgAll E0 9 [23, 41] avs) : FnOK Try.prog TE 8 avs (.bit true) := by
  obtain ⟨l, o, hl, ho, rfl⟩ := argAll2 H
  obtain ⟨cu, lo, hi, re, lt, ht, rfl, _⟩ := openC hl
  obtain ⟨n, f, x, rfl, hx, _⟩ := openTIs ho
  show FnOK Try.prog TE 8 [.agg [.int .i64 cu, .int .i64 lo, .int .i64 hi, .int .i64 re, .int .i64 lt, .int .i64 ht], .sl 10 n f] (.bit true)
  refine FnOK.args ?_ (m := [.agg [.int .i64 cu, .int .i64 lo, .int .i64 hi, .int .i64 re, .int .i64 lt, .int .i64 ht], .sl 10 n fun i j => nth (x i).c j]) ⟨.refl, tis_le hx, trivial⟩
  clear H hl ho hx
  refine fn_ofF tabsOK (specOK_cons ok12 (specOK_cons ok14 (specOK_cons ok16 (specOK_cons ok18 (specOK_cons ok20 specOK_nil))))) mixed Try.func8 (by kernel_rfl) ?_
  refine Brn.mk (fun h1 => AVle.bit rfl) (fun h1 => ?_)
  have h1 : tchk cu lo hi re lt ht = 0 := ndF h1
  refine Brn.mk (fun h3 => AVle.bit rfl) (fun h3 => ?_)
  have h3 : ¬ 300 < (n : Int) := of_decide_eq_false h3
  obtain ⟨c1, c2, c3, c4, c5⟩ := tchk_zero h1
  have e : ∀ t, okT (tchk cu lo hi re lt ht) t = t := fun t => by rw [okT, if_pos h1]
  refine LoopOK.mk ⟨{ i : Nat // i ≤ n }, fun i => mkSt [(1, .sl 10 n fun i j => nth (x i).c j), (2, .loc 2 0), (5, .loc 5 0), (6, .int .i64 i.1)]
      [(2, ⟨23, 6, 1, fun _ j => nth [.int .i64 cu, .int .i64 lo, .int .i64 hi, .int .i64 re, .int .i64 lt, .int .i64 ht] j, 0, true⟩), (5, ⟨32, 5, 1, fun _ j => nth TS.zero.l j, 0, true⟩)],
      fun i => n - i.1, ⟨⟨0, by omega⟩, ?_⟩, ?_⟩
  · refine wk_of [(2, some 2), (5, some 5)] rfl ⟨⟨rfl, rfl⟩, rfl, rfl, ⟨rfl, rfl⟩, trivial⟩ ⟨RowLe.fin rfl rfl rfl rfl rfl ?_, RowLe.fin rfl rfl rfl rfl rfl ?_, trivial⟩
    all_goals (repeat' first | exact trivial | exact ⟨by kernel_rfl, by kernel_rfl⟩ | exact Or.inr (by kernel_rfl) | (show _ = _; kernel_rfl) | refine ⟨?_, ?_⟩)
  rintro ⟨i, hin⟩
  have hin : i ≤ n := hin
  refine Brn.mk (fun h => ?_) (fun _ => AVle.bit rfl)
  have h : (i : Int) < n := of_decide_eq_true h
  have hb : (0 : Int) ≤ (i : Int) ∧ (i : Int) < (n : Int) := ⟨by omega, h⟩
  refine Chk.mk hb ?_
  refine LoopOK.mk ⟨{ k : Nat // k ≤ 3 }, fun k => mkSt [(1, .sl 10 n fun i j => nth (x i).c j), (2, .loc 2 0), (5, .loc 5 0), (6, .int .i64 i), (7, .loc 7 0), (8, .int .i64 k.1)]
      [(2, ⟨23, 6, 1, fun _ j => nth [.int .i64 cu, .int .i64 lo, .int .i64 hi, .int .i64 re, .int .i64 lt, .int .i64 ht] j, 0, true⟩), (5, ⟨32, 5, 1, fun _ j => nth TS.zero.l j, 0, true⟩), (7, ⟨36, 10, 1, fun _ j => nth (cellsI cu lo hi (x i) k.1) j, 0, true⟩)],
      fun k => 3 - k.1, ⟨⟨0, by omega⟩, ?_⟩, ?_⟩
  · refine wk_of [(2, some 2), (5, some 5), (7, some 7)] rfl ⟨⟨rfl, rfl⟩, rfl, rfl, ⟨rfl, rfl⟩, rfl, ⟨rfl, rfl⟩, trivial⟩ ⟨RowLe.fin rfl rfl rfl rfl rfl ?_, RowLe.fin rfl rfl rfl rfl rfl ?_, RowLe.fin rfl rfl rfl rfl rfl ?_, trivial⟩
    all_goals (repeat' first | exact trivial | exact ⟨by kernel_rfl, by kernel_rfl⟩ | exact Or.inr (by kernel_rfl) | (show _ = _; kernel_rfl) | refine ⟨?_, ?_⟩)
  rintro ⟨k, hk⟩
  have hc : k = 0 ∨ k = 1 ∨ k = 2 ∨ k = 3 := by omega
  rcases hc with rfl | rfl | rfl | rfl
  · refine Brn.mk (fun _ => ?_) (fun h => absurd (show ¬ ((0 : Nat) : Int) < 3 from of_decide_eq_false h) (by decide))
    have hb3 : (0 : Int) ≤ ((0 : Nat) : Int) ∧ ((0 : Nat) : Int) < ((3 : Nat) : Int) := by decide
    refine Chk.mk hb (Chk.mk hb3 (Chk.mk hb3 ?_))
    refine ⟨⟨1, by decide⟩, by show 3 - 1 < 3 - 0; decide, ?_⟩
    refine wk_of [(2, some 2), (5, some 5), (7, some 7)] rfl ⟨⟨rfl, rfl⟩, rfl, rfl, ⟨rfl, rfl⟩, rfl, ⟨wrS (i := 0) (by decide), rfl⟩, trivial⟩ ⟨RowLe.fin rfl rfl rfl rfl rfl ?_, RowLe.fin rfl rfl rfl rfl rfl ?_, RowLe.fin rfl rfl rfl rfl rfl ?_, trivial⟩
    all_goals (repeat' first | exact trivial | exact ⟨by kernel_rfl, by kernel_rfl⟩ | exact Or.inr (by kernel_rfl) | (show _ = _; kernel_rfl) | refine ⟨?_, ?_⟩)
  · refine Brn.mk (fun _ => ?_) (fun h => absurd (show ¬ ((1 : Nat) : Int) < 3 from of_decide_eq_false h) (by decide))
    have hb3 : (0 : Int) ≤ ((1 : Nat) : Int) ∧ ((1 : Nat) : Int) < ((3 : Nat) : Int) := by decide
    refine Chk.mk hb (Chk.mk hb3 (Chk.mk hb3 ?_))
    refine ⟨⟨2, by decide⟩, by show 3 - 2 < 3 - 1; decide, ?_⟩
    refine wk_of [(2, some 2), (5, some 5), (7, some 7)] rfl ⟨⟨rfl, rfl⟩, rfl, rfl, ⟨rfl, rfl⟩, rfl, ⟨wrS (i := 1) (by decide), rfl⟩, trivial⟩ ⟨RowLe.fin rfl rfl rfl rfl rfl ?_, RowLe.fin rfl rfl rfl rfl rfl ?_, RowLe.fin rfl rfl rfl rfl rfl ?_, trivial⟩
    all_goals (repeat' first | exact trivial | exact ⟨by kernel_rfl, by kernel_rfl⟩ | exact Or.inr (by kernel_rfl) | (show _ = _; kernel_rfl) | refine ⟨?_, ?_⟩)
  · refine Brn.mk (fun _ => ?_) (fun h => absurd (show ¬ ((2 : Nat) : Int) < 3 from of_decide_eq_false h) (by decide))
    have hb3 : (0 : Int) ≤ ((2 : Nat) : Int) ∧ ((2 : Nat) : Int) < ((3 : Nat) : Int) := by decide
    refine Chk.mk hb (Chk.mk hb3 (Chk.mk hb3 ?_))
    refine ⟨⟨3, by decide⟩, by show 3 - 3 < 3 - 2; decide, ?_⟩
    refine wk_of [(2, some 2), (5, some 5), (7, some 7)] rfl ⟨⟨rfl, rfl⟩, rfl, rfl, ⟨rfl, rfl⟩, rfl, ⟨wrS (i := 2) (by decide), rfl⟩, trivial⟩ ⟨RowLe.fin rfl rfl rfl rfl rfl ?_, RowLe.fin rfl rfl rfl rfl rfl ?_, RowLe.fin rfl rfl rfl rfl rfl ?_, trivial⟩
    all_goals (repeat' first | exact trivial | exact ⟨by kernel_rfl, by kernel_rfl⟩ | exact Or.inr (by kernel_rfl) | (show _ = _; kernel_rfl) | refine ⟨?_, ?_⟩)
  · refine Brn.mk (fun h => absurd (show ((3 : Nat) : Int) < 3 from of_decide_eq_true h) (by decide)) (fun _ => ?_)
    have rng : ∀ j, -cu ≤ curI cu (x i) 3 j ∧ curI cu (x i) 3 j ≤ cu := fun j => by
      unfold curI clc
      rw [neg_id c1]
      split <;> omega
    have o0 := ovr_no c1 (rng 0).1 (rng 0).2
    have o1 := ovr_no c1 (rng 1).1 (rng 1).2
    have o2 := ovr_no c1 (rng 2).1 (rng 2).2
    have calm : okT (tchk cu lo hi re lt ht) (tstep cu lo hi re lt ht ⟨0, 0, 0, 0, false⟩ (curI cu (x i) 3 0) (curI cu (x i) 3 1) (curI cu (x i) 3 2) (max lo (min (x i).l hi)) (any6 false false false false false false)) = .zero := by
      rw [e]
      exact calm_step h1 o0 o1 o2 (by omega) (by omega) rfl
    have rst : rstP (tchk cu lo hi re lt ht) (rstE lo hi (over3 cu (curI cu (x i) 3 0) (curI cu (x i) 3 1) (curI cu (x i) 3 2)) (any6 false false false false false false) (max lo (min (x i).l hi))) = 0 := by
      rw [rstP, if_pos h1, rstE, over3, o0, o1, o2, if_neg]
      rintro (h | h | h | h)
      · cases h
      · cases h
      · omega
      · omega
    refine Brn.mk (fun p => absurd h1 (ndT p)) (fun _ => ?_)
    refine Brn.mk (fun p => ?_) (fun _ => ?_)
    · have p : (!(decide ((okT (tchk cu lo hi re lt ht) (tstep cu lo hi re lt ht ⟨0, 0, 0, 0, false⟩ (curI cu (x i) 3 0) (curI cu (x i) 3 1) (curI cu (x i) 3 2) (max lo (min (x i).l hi)) (any6 false false false false false false))).a = 0) && (decide ((okT (tchk cu lo hi re lt ht) (tstep cu lo hi re lt ht ⟨0, 0, 0, 0, false⟩ (curI cu (x i) 3 0) (curI cu (x i) 3 1) (curI cu (x i) 3 2) (max lo (min (x i).l hi)) (any6 false false false false false false))).b = 0) && (decide ((okT (tchk cu lo hi re lt ht) (tstep cu lo hi re lt ht ⟨0, 0, 0, 0, false⟩ (curI cu (x i) 3 0) (curI cu (x i) 3 1) (curI cu (x i) 3 2) (max lo (min (x i).l hi)) (any6 false false false false false false))).c = 0) && (decide ((okT (tchk cu lo hi re lt ht) (tstep cu lo hi re lt ht ⟨0, 0, 0, 0, false⟩ (curI cu (x i) 3 0) (curI cu (x i) 3 1) (curI cu (x i) 3 2) (max lo (min (x i).l hi)) (any6 false false false false false false))).d = 0) && (((okT (tchk cu lo hi re lt ht) (tstep cu lo hi re lt ht ⟨0, 0, 0, 0, false⟩ (curI cu (x i) 3 0) (curI cu (x i) 3 1) (curI cu (x i) 3 2) (max lo (min (x i).l hi)) (any6 false false false false false false))).o == false) && true)))))) = true := p
      rw [calm] at p
      exact absurd p (by decide)
    refine Brn.mk (fun p => absurd rst (ndT p)) (fun _ => ?_)
    refine ⟨⟨i + 1, by omega⟩, by show n - (i + 1) < n - i; omega, ?_⟩
    refine wk_of [(2, some 2), (5, some 5)] rfl ⟨⟨rfl, rfl⟩, rfl, rfl, ⟨wrS (i := i) (by omega), rfl⟩, trivial⟩ ⟨RowLe.fin rfl rfl rfl rfl rfl ?_, RowLe.fin rfl rfl rfl rfl rfl ?_, trivial⟩
    · (repeat' first | exact trivial | exact ⟨by kernel_rfl, by kernel_rfl⟩ | exact Or.inr (by kernel_rfl) | (show _ = _; kernel_rfl) | refine ⟨?_, ?_⟩)
    · refine ⟨trivial, ⟨⟨⟨⟨⟨trivial, ?_⟩, ?_⟩, ?_⟩, ?_⟩, ?_⟩⟩
      · exact ⟨congrArg (fun t : TS => AV.int .i64 t.a) calm, rfl⟩
      · exact ⟨congrArg (fun t : TS => AV.int .i64 t.b) calm, rfl⟩
      · exact ⟨congrArg (fun t : TS => AV.int .i64 t.c) calm, rfl⟩
      · exact ⟨congrArg (fun t : TS => AV.int .i64 t.d) calm, rfl⟩
      · exact ⟨congrArg (fun t : TS => AV.bit t.o) calm, rfl⟩

theorem lifted8 (os : Os) (started : os.Started) (H : Type) (enc : TypeId × Value → H) :
    ReturnsInHanded {} Try.checked os 8 .any (Rows.tripQuietSpec.pre6 enc Try.prog Try.f8 Rows.tripQuietRow.domain false) (Rows.tripQuietSpec.post enc Try.prog Try.f8 false true false false) := by
  refine returnsInHanded_of_change (C := Try.checked) own0 started (by kernel_rfl) Try.func8
    (ChangeSpec.witness6 (enc := enc) (C := Try.checked) false ⟨#[], #[.agg #[.int .i64 0, .int .i64 0, .int .i64 0, .int .i64 0, .int .i64 0, .int .i64 0], .slice none 0 0], []⟩ 8 (by kernel_rfl) (by kernel_rfl) (by kernel_rfl) (by kernel_rfl)) ?_
  intro W base args ds gs before hval hW _ _
  exact law_contract tabE0 (d := 9) (tb := 4) [23, 41] (by kernel_rfl) (by kernel_rfl) (by kernel_rfl) rfl laidOut0 (by kernel_rfl) (by kernel_rfl)
    (fun H ds h => match ds, h with | [_, _], _ => rfl) law8 hval hW

theorem TripQuiet_proved : Rows.TripQuietSaid :=
  OpenClaim.holds_of_wide (p := Try.pinned) (s := Rows.tripQuietSpec) (c := Rows.tripQuietRow) 8 Try.f8 rfl rfl rfl rfl rfl rfl rfl ⟨rfl, rfl, rfl, rfl, rfl⟩ rfl rfl rfl rfl rfl (by kernel_rfl) Try.func8 (by kernel_rfl)
    (of_decide_eq_true (by kernel_rfl)) (by unfold Func.isWrapper; rw [if_neg (of_decide_eq_false (by kernel_rfl))]; exact ⟨rfl, rfl⟩)
    (fun os started H enc _ => lifted8 os started H enc)
end
end Go.Proofs.Ytalppnldnahmbaa
