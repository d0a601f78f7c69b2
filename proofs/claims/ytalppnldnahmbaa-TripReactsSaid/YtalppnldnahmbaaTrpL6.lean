/- Chapter 44: with quiet inputs before, the first current beyond the threshold leads to Off exactly Reaction ticks later, whatever comes in between. Conditions: none. -/
import Derived.Test.YtalppnldnahmbaaTrp4
import Derived.Test.YtalppnldnahmbaaRows
import Derived.ProofKit
namespace Go.Proofs.Ytalppnldnahmbaa
open Go Go.Proofs.Ytalppnldnahmbaa.AI Go.Proofs Go.Proofs.Ytalppnldnahmbaa.Img Go.ChangeShapes Go.WideShapes Go.ChangeAt Go.RowKit
noncomputable section
set_option maxRecDepth 100000

theorem neg_id {cu : Int} (h : 0 ≤ cu ∧ cu ≤ 2097152) : wr (0 - cu) = -cu := by rw [wr_id (by omega) (by omega)]; omega
theorem ovr_no {cu x : Int} (h : 0 ≤ cu ∧ cu ≤ 2097152) (h1 : -cu ≤ x) (h2 : x ≤ cu) : ovr cu x = false := by
  rw [ovr, neg_id h, decide_eq_false (by omega), decide_eq_false (by omega)]; rfl
theorem calm_step {cu lo hi re lt ht x0 x1 x2 l : Int} {ds : Bool} (h : tchk cu lo hi re lt ht = 0) (h0 : ovr cu x0 = false) (h1 : ovr cu x1 = false) (h2 : ovr cu x2 = false) (h3 : lo ≤ l) (h4 : l ≤ hi) (hd : ds = false) :
    tstep cu lo hi re lt ht .zero x0 x1 x2 l ds = .zero := by
  obtain ⟨_, _, _, k1, k2⟩ := tchk_zero h
  have e1 : clip 0 0 lt = 0 := by unfold clip; omega
  have e2 : clip 0 0 ht = 0 := by unfold clip; omega
  have e3 : tclip lt ht .zero = .zero := by
    show (⟨clip 0 0 4, clip 0 0 64, clip 0 0 lt, clip 0 0 ht, false⟩ : TS) = _
    rw [e1, e2]; rfl
  have e4 : over3 cu x0 x1 x2 = false := by rw [over3, h0, h1, h2]; rfl
  rw [tstep, e3, e4, decide_eq_false (by omega), decide_eq_false (by omega), hd, tstep1, if_neg (by decide), if_neg (by decide), if_neg]
  · rfl
  · show ¬ ¬ tcause false false 0 0 lt ht = 0
    rw [tcause, if_neg (by decide), if_neg (by decide), if_neg (by omega), if_neg (by omega)]
    simp
theorem first_step {cu lo hi re lt ht x1 l : Int} {ds : Bool} (h : tchk cu lo hi re lt ht = 0) (h1 : ovr cu x1 = true) (h3 : lo ≤ l) (h4 : l ≤ hi) :
    tstep cu lo hi re lt ht .zero 0 x1 0 l ds = ⟨1, re, 0, 0, decide (re = 0)⟩ := by
  obtain ⟨_, _, _, k1, k2⟩ := tchk_zero h
  have e1 : clip 0 0 lt = 0 := by unfold clip; omega
  have e2 : clip 0 0 ht = 0 := by unfold clip; omega
  have e3 : tclip lt ht .zero = .zero := by
    show (⟨clip 0 0 4, clip 0 0 64, clip 0 0 lt, clip 0 0 ht, false⟩ : TS) = _
    rw [e1, e2]; rfl
  have e4 : over3 cu 0 x1 0 = true := by rw [over3, h1]; cases ovr cu 0 <;> rfl
  have e5 : ∀ c d, tcause true ds c d lt ht = 1 := fun c d => by rw [tcause, if_pos rfl]
  rw [tstep, e3, e4, decide_eq_false (by omega), decide_eq_false (by omega), tstep1, if_neg (by decide), if_neg (by decide), e5, if_pos (by decide)]
  rfl
theorem count_step (cu lo hi re lt ht : Int) {s : TS} (x : TI) (ha : s.a = 1) (hb : 0 < s.b ∧ s.b ≤ 64) (ho : s.o = false) :
    (tstepI cu lo hi re lt ht s x).a = 1 ∧ (tstepI cu lo hi re lt ht s x).b = s.b - 1 ∧ (tstepI cu lo hi re lt ht s x).o = decide (s.b - 1 = 0) := by
  have ea : (tclip lt ht s).a = 1 := by show clip s.a 0 4 = 1; rw [ha]; rfl
  have eb : (tclip lt ht s).b = s.b := by show clip s.b 0 64 = s.b; unfold clip; omega
  have e : max (wr (s.b - 1)) 0 = s.b - 1 := by rw [wr_id (by omega) (by omega)]; omega
  rw [tstepI, tstep, tstep1, if_neg (by rw [show (tclip lt ht s).o = false from ho]; decide), if_pos (by rw [ea]; decide), ea, eb, e]
  exact ⟨rfl, rfl, rfl⟩
set_option maxHeartbeats 4000000 in
theorem law6 (avs : List AV) (H : ArgAll E0 9 [23, 5, 41] avs) : FnOK Try.prog TE 6 avs (.bit true) := by
  obtain ⟨l, m, o, hl, hm, ho, rfl⟩ := argAll3 H
  obtain ⟨cu, lo, hi, re, lt, ht, rfl, _⟩ := openC hl
  obtain ⟨qz, rfl, hq⟩ := hm
  obtain ⟨n, f, x, rfl, hx, _⟩ := openTIs ho
  obtain ⟨q, rfl⟩ : ∃ q : Nat, qz = q := ⟨qz.toNat, by
    simp [Lit.wf, IntKind.min, IntKind.max, IntKind.signed, IntKind.bits] at hq
    omega⟩
  have hq : q ≤ 255 := by
    simp [Lit.wf, IntKind.min, IntKind.max, IntKind.signed, IntKind.bits] at hq
    omega
  show FnOK Try.prog TE 6 [.agg [.int .i64 cu, .int .i64 lo, .int .i64 hi, .int .i64 re, .int .i64 lt, .int .i64 ht], .int .u8 q, .sl 10 n f] (.bit true)
  refine FnOK.args ?_ (m := [.agg [.int .i64 cu, .int .i64 lo, .int .i64 hi, .int .i64 re, .int .i64 lt, .int .i64 ht], .int .u8 q, .sl 10 n fun i j => nth (x i).c j]) ⟨.refl, .refl, tis_le hx, trivial⟩
  clear H hl ho hx
  refine fn_ofF tabsOK (specOK_cons ok12 (specOK_cons ok14 (specOK_cons ok16 (specOK_cons ok19 specOK_nil)))) mixed Try.func6 (by kernel_rfl) ?_
  refine Brn.mk (fun h1 => AVle.bit rfl) (fun h1 => ?_)
  have h1 : tchk cu lo hi re lt ht = 0 := ndF h1
  refine Brn.mk (fun h2 => AVle.bit rfl) (fun h2 => ?_)
  have h2 : ¬ (n : Int) < re := of_decide_eq_false h2
  refine Brn.mk (fun h3 => AVle.bit rfl) (fun h3 => ?_)
  have h3 : ¬ 300 < (n : Int) := of_decide_eq_false h3
  obtain ⟨c1, c2, c3, c4, c5⟩ := tchk_zero h1
  have e : ∀ t, okT (tchk cu lo hi re lt ht) t = t := fun t => by rw [okT, if_pos h1]
  have eq : IntKind.wrap .i64 (q : Int) = q := wr_id (by omega) (by omega)
  have calm : okT (tchk cu lo hi re lt ht) (tstep cu lo hi re lt ht ⟨0, 0, 0, 0, false⟩ 0 cu 0 lo (any6 false false false false false false)) = .zero := by
    rw [e]
    exact calm_step h1 (ovr_no c1 (by omega) (by omega)) (ovr_no c1 (by omega) (by omega)) (ovr_no c1 (by omega) (by omega)) (by omega) (by omega) rfl
  have first : okT (tchk cu lo hi re lt ht) (tstep cu lo hi re lt ht ⟨0, 0, 0, 0, false⟩ 0 (wr (wr (0 - cu) - 1)) 0 lo (any6 false false false false false false)) = ⟨1, re, 0, 0, decide (re = 0)⟩ := by
    rw [e]
    refine first_step h1 ?_ (by omega) (by omega)
    rw [ovr, neg_id c1, wr_id (by omega) (by omega), decide_eq_true (show -cu - 1 < -cu by omega), Bool.or_true]
  refine LoopOK.mk ⟨{ i : Nat // i ≤ q }, fun i => mkSt [(1, .int .u8 q), (2, .sl 10 n fun i j => nth (x i).c j), (3, .loc 3 0), (7, .loc 7 0), (8, .int .i64 i.1)]
      [(3, ⟨23, 6, 1, fun _ j => nth [.int .i64 cu, .int .i64 lo, .int .i64 hi, .int .i64 re, .int .i64 lt, .int .i64 ht] j, 0, true⟩), (7, ⟨32, 5, 1, fun _ j => nth TS.zero.l j, 0, true⟩)],
      fun i => q - i.1, ⟨⟨0, by omega⟩, ?_⟩, ?_⟩
  · refine wk_of [(3, some 3), (7, some 7)] rfl ⟨⟨rfl, rfl⟩, ⟨rfl, rfl⟩, rfl, rfl, ⟨rfl, rfl⟩, trivial⟩ ⟨RowLe.fin rfl rfl rfl rfl rfl ?_, RowLe.fin rfl rfl rfl rfl rfl ?_, trivial⟩
    all_goals (repeat' first | exact trivial | exact ⟨by kernel_rfl, by kernel_rfl⟩ | exact Or.inr (by kernel_rfl) | (show _ = _; kernel_rfl) | refine ⟨?_, ?_⟩)
  rintro ⟨i, hin⟩
  have hin : i ≤ q := hin
  refine Brn.mk (fun h => ?_) (fun h => ?_)
  · have h : (i : Int) < IntKind.wrap .i64 (q : Int) := of_decide_eq_true h
    rw [eq] at h
    refine Brn.mk (fun p => absurd h1 (ndT p)) (fun _ => ?_)
    refine Brn.mk (fun p => absurd (show (okT (tchk cu lo hi re lt ht) (tstep cu lo hi re lt ht ⟨0, 0, 0, 0, false⟩ 0 cu 0 lo (any6 false false false false false false))).o = true from p) (by rw [calm]; decide)) (fun _ => ?_)
    refine Brn.mk (fun p => absurd (show (okT (tchk cu lo hi re lt ht) (tstep cu lo hi re lt ht ⟨0, 0, 0, 0, false⟩ 0 cu 0 lo (any6 false false false false false false))).a = 0 by rw [calm]; rfl) (ndT p)) (fun _ => ?_)
    refine ⟨⟨i + 1, by omega⟩, by show q - (i + 1) < q - i; omega, ?_⟩
    refine wk_of [(3, some 3), (7, some 7)] rfl ⟨⟨rfl, rfl⟩, ⟨rfl, rfl⟩, rfl, rfl, ⟨wrS (i := i) (by omega), rfl⟩, trivial⟩ ⟨RowLe.fin rfl rfl rfl rfl rfl ?_, RowLe.fin rfl rfl rfl rfl rfl ?_, trivial⟩
    · (repeat' first | exact trivial | exact ⟨by kernel_rfl, by kernel_rfl⟩ | exact Or.inr (by kernel_rfl) | (show _ = _; kernel_rfl) | refine ⟨?_, ?_⟩)
    · refine ⟨trivial, ⟨⟨⟨⟨⟨trivial, ?_⟩, ?_⟩, ?_⟩, ?_⟩, ?_⟩⟩
      · exact ⟨congrArg (fun t : TS => AV.int .i64 t.a) calm, rfl⟩
      · exact ⟨congrArg (fun t : TS => AV.int .i64 t.b) calm, rfl⟩
      · exact ⟨congrArg (fun t : TS => AV.int .i64 t.c) calm, rfl⟩
      · exact ⟨congrArg (fun t : TS => AV.int .i64 t.d) calm, rfl⟩
      · exact ⟨congrArg (fun t : TS => AV.bit t.o) calm, rfl⟩
  refine Brn.mk (fun p => absurd h1 (ndT p)) (fun _ => ?_)
  refine Brn.mk (fun p => absurd (show (okT (tchk cu lo hi re lt ht) (tstep cu lo hi re lt ht ⟨0, 0, 0, 0, false⟩ 0 (wr (wr (0 - cu) - 1)) 0 lo (any6 false false false false false false))).a = 1 by rw [first]) (ndT p)) (fun _ => ?_)
  refine Brn.mk (fun p => absurd (show (!((okT (tchk cu lo hi re lt ht) (tstep cu lo hi re lt ht ⟨0, 0, 0, 0, false⟩ 0 (wr (wr (0 - cu) - 1)) 0 lo (any6 false false false false false false))).o == decide (re = 0))) = true from p) (by rw [first]; simp)) (fun _ => ?_)
  refine LoopOK.mk ⟨{ y : Nat × TS // y.1 ≤ re.toNat ∧ y.2.a = 1 ∧ y.2.b = re - y.1 ∧ y.2.o = decide (re - y.1 = 0) }, fun y => mkSt [(2, .sl 10 n fun i j => nth (x i).c j), (3, .loc 3 0), (7, .loc 7 0), (12, .int .i64 y.1.1)]
      [(3, ⟨23, 6, 1, fun _ j => nth [.int .i64 cu, .int .i64 lo, .int .i64 hi, .int .i64 re, .int .i64 lt, .int .i64 ht] j, 0, true⟩), (7, ⟨32, 5, 1, fun _ j => nth y.1.2.l j, 0, true⟩)],
      fun y => re.toNat - y.1.1, ⟨⟨(0, ⟨1, re, 0, 0, decide (re = 0)⟩), by show 0 ≤ re.toNat; omega, rfl, by show re = re - ((0 : Nat) : Int); omega, by show decide (re = 0) = decide (re - ((0 : Nat) : Int) = 0); simp⟩, ?_⟩, ?_⟩
  · refine wk_of [(3, some 3), (7, some 7)] rfl ⟨⟨rfl, rfl⟩, rfl, rfl, ⟨rfl, rfl⟩, trivial⟩ ⟨RowLe.fin rfl rfl rfl rfl rfl ?_, RowLe.fin rfl rfl rfl rfl rfl ?_, trivial⟩
    · (repeat' first | exact trivial | exact ⟨by kernel_rfl, by kernel_rfl⟩ | exact Or.inr (by kernel_rfl) | (show _ = _; kernel_rfl) | refine ⟨?_, ?_⟩)
    · refine ⟨trivial, ⟨⟨⟨⟨⟨trivial, ?_⟩, ?_⟩, ?_⟩, ?_⟩, ?_⟩⟩
      · exact ⟨congrArg (fun t : TS => AV.int .i64 t.a) first, rfl⟩
      · exact ⟨congrArg (fun t : TS => AV.int .i64 t.b) first, rfl⟩
      · exact ⟨congrArg (fun t : TS => AV.int .i64 t.c) first, rfl⟩
      · exact ⟨congrArg (fun t : TS => AV.int .i64 t.d) first, rfl⟩
      · exact ⟨congrArg (fun t : TS => AV.bit t.o) first, rfl⟩
  rintro ⟨⟨j, s⟩, hj, ha, hb, hso⟩
  have hj : j ≤ re.toNat := hj
  have ha : s.a = 1 := ha
  have hb : s.b = re - j := hb
  have hso : s.o = decide (re - j = 0) := hso
  refine Brn.mk (fun h => ?_) (fun _ => AVle.bit rfl)
  have h : (j : Int) < re := of_decide_eq_true h
  have hbj : (0 : Int) ≤ (j : Int) ∧ (j : Int) < (n : Int) := ⟨by omega, by omega⟩
  refine Chk.mk hbj ?_
  have k := count_step cu lo hi re lt ht (x j) ha (by omega) (by rw [hso]; exact decide_eq_false (by omega))
  rw [← e (tstepI cu lo hi re lt ht s (x j)), hb] at k
  obtain ⟨k1, k2, k3⟩ := k
  refine Brn.mk (fun p => absurd h1 (ndT p)) (fun _ => ?_)
  refine Brn.mk (fun p => absurd (show (!((okT (tchk cu lo hi re lt ht) (tstepI cu lo hi re lt ht s (x j))).o == decide ((j : Int) = wr (re - 1)))) = true from p) ?_) (fun _ => ?_)
  · rw [k3, wr_id (by omega) (by omega)]
    have : decide (re - j - 1 = 0) = decide ((j : Int) = re - 1) := by
      rw [Bool.eq_iff_iff, decide_eq_true_iff, decide_eq_true_iff]
      omega
    rw [this]
    simp
  refine ⟨⟨(j + 1, okT (tchk cu lo hi re lt ht) (tstepI cu lo hi re lt ht s (x j))), by show j + 1 ≤ re.toNat; omega, k1, by show (okT (tchk cu lo hi re lt ht) (tstepI cu lo hi re lt ht s (x j))).b = re - ((j + 1 : Nat) : Int); omega, by show (okT (tchk cu lo hi re lt ht) (tstepI cu lo hi re lt ht s (x j))).o = decide (re - ((j + 1 : Nat) : Int) = 0); rw [k3, Bool.eq_iff_iff, decide_eq_true_iff, decide_eq_true_iff]; omega⟩, by show re.toNat - (j + 1) < re.toNat - j; omega, ?_⟩
  refine wk_of [(3, some 3), (7, some 7)] rfl ⟨⟨rfl, rfl⟩, rfl, rfl, ⟨wrS (i := j) (by omega), rfl⟩, trivial⟩ ⟨RowLe.fin rfl rfl rfl rfl rfl ?_, RowLe.fin rfl rfl rfl rfl rfl ?_, trivial⟩
  all_goals (repeat' first | exact trivial | exact ⟨by kernel_rfl, by kernel_rfl⟩ | exact Or.inr (by kernel_rfl) | (show _ = _; kernel_rfl) | refine ⟨?_, ?_⟩)

theorem lifted6 (os : Os) (started : os.Started) (H : Type) (enc : TypeId × Value → H) :
    ReturnsInHanded {} Try.checked os 6 .any (Rows.tripReactsSpec.pre6 enc Try.prog Try.f6 Rows.tripReactsRow.domain false) (Rows.tripReactsSpec.post enc Try.prog Try.f6 false true false false) := by
  refine returnsInHanded_of_change (C := Try.checked) own0 started (by kernel_rfl) Try.func6
    (ChangeSpec.witness6 (enc := enc) (C := Try.checked) false ⟨#[], #[.agg #[.int .i64 0, .int .i64 0, .int .i64 0, .int .i64 0, .int .i64 0, .int .i64 0], .int .u8 0, .slice none 0 0], []⟩ 8 (by kernel_rfl) (by kernel_rfl) (by kernel_rfl) (by kernel_rfl)) ?_
  intro W base args ds gs before hval hW _ _
  exact law_contract tabE0 (d := 9) (tb := 4) [23, 5, 41] (by kernel_rfl) (by kernel_rfl) (by kernel_rfl) rfl laidOut0 (by kernel_rfl) (by kernel_rfl)
    (fun H ds h => match ds, h with | [_, _, _], _ => rfl) law6 hval hW

theorem TripReacts_proved : Rows.TripReactsSaid :=
  OpenClaim.holds_of_wide (p := Try.pinned) (s := Rows.tripReactsSpec) (c := Rows.tripReactsRow) 6 Try.f6 rfl rfl rfl rfl rfl rfl rfl ⟨rfl, rfl, rfl, rfl, rfl⟩ rfl rfl rfl rfl rfl (by kernel_rfl) Try.func6 (by kernel_rfl)
    (of_decide_eq_true (by kernel_rfl)) (by unfold Func.isWrapper; rw [if_neg (of_decide_eq_false (by kernel_rfl))]; exact ⟨rfl, rfl⟩)
    (fun os started H enc _ => lifted6 os started H enc)
end
end Go.Proofs.Ytalppnldnahmbaa
