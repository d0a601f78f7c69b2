/- Chapter 37: whatever was fed, acceleration and jerk stay within the bounds of the greatest element, and after M1 + M2 zeros the filter is at rest. Conditions: none. -/
import Derived.Test.YtpndkmppncpkgaaPrf13
import Derived.Test.YtpndkmppncpkgaaRows
import Derived.ProofKit
namespace Go.Proofs.Ytpndkmppncpkgaa
open Go Go.Proofs.Ytpndkmppncpkgaa.AI Go.Proofs Go.Proofs.Ytpndkmppncpkgaa.Img Go.ChangeShapes Go.WideShapes Go.ChangeAt Go.RowKit
noncomputable section
set_option maxRecDepth 100000

set_option maxHeartbeats 2000000 in
theorem law9 (avs : List AV) (H : ArgAll E0 9 [60, 48, 3] avs) : FnOK Try.prog TE 9 avs (.bit true) := by
  obtain ⟨l1, l2, l3, h1, h2, h3, rfl⟩ := argAll3 H
  obtain ⟨x, y, rfl, hx, hy⟩ := openA h1
  obtain ⟨n, f, rfl, hf, _⟩ := openL h2
  obtain ⟨mo, rfl, _⟩ := openI h3
  show FnOK Try.prog TE 9 [.agg [.int .u8 x, .int .u8 y], .sl 1 n f, .int .i64 mo] (.bit true)
  refine FnOK.args (m := [.agg [.int .u8 x, .int .u8 y], .sl 1 n fun i _ => .int .i64 (vI f i), .int .i64 mo]) ?_ ⟨fun _ _ _ h => h, ints_le rfl hf, fun _ _ _ h => h, trivial⟩
  generalize vI f = L
  obtain ⟨a, ea, a1, a2⟩ := mod20 hx
  obtain ⟨b, eb, b1, b2⟩ := mod20 hy
  have hA : 1 ≤ a ∧ a ≤ 256 := by omega
  have hB : 1 ≤ b ∧ b ≤ 256 := by omega
  refine fn_ofF tabsOK (specOK_cons ok13 (specOK_cons ok16 (specOK_cons ok18 (specOK_cons ok26 (specOK_cons ok28 (specOK_cons ok31 specOK_nil)))))) mixed Try.func9 (by kernel_rfl) ?_
  refine Chk.mk (by decide) (Chk.mk (by decide) (Chk.mk (by decide) (Chk.mk (by decide) ?_)))
  refine Brn.mk (fun _ => AVle.bit rfl) (fun hn => ?_)
  have hn : ¬ (60 : Int) < n := of_decide_eq_false hn
  have bc0 : bchk a b = 0 := bchk0.2 ⟨by omega, by omega⟩
  have bc : bchk (wr ((wr x).tmod 20 + 1)) (wr ((wr y).tmod 20 + 1)) = 0 := by rw [ea, eb]; exact bc0
  refine Brn.mk (fun q => absurd bc (ndT q)) (fun _ => ?_)
  have hM : 0 ≤ clip mo 0 16777216 ∧ clip mo 0 16777216 ≤ 16777216 := by unfold clip; omega
  generalize hMd : clip mo 0 16777216 = M at hM
  obtain ⟨m1, m2, m3, m4, m5, m6, m7, m8⟩ := mab hM a2 b2
  generalize hUd : inU L n M = U
  have U0 : ∀ t, 0 ≤ U t := fun t => by rw [← hUd]; exact (inU_bd hM.1 t).1
  have U1 : ∀ t, U t ≤ M := fun t => by rw [← hUd]; exact (inU_bd hM.1 t).2
  have hU : ∀ t, -16777216 ≤ U t ∧ U t ≤ 16777216 := fun t => by have := U0 t; have := U1 t; omega
  have UN : ∀ t, t < 0 → U t = 0 := fun t h => by rw [← hUd]; exact inU_neg t h
  have VB : ∀ j, 0 ≤ bx (bx U a) b j ∧ bx (bx U a) b j ≤ b * (a * M) ∧ b * (a * M) ≤ 8589934592 := fun j => by
    have p1 : (a : Int) * M ≤ 20 * 16777216 := Int.mul_le_mul (by omega) hM.2 hM.1 (by decide)
    have p0 : 0 ≤ (a : Int) * M := Int.mul_nonneg (by omega) hM.1
    have q1 : (b : Int) * (a * M) ≤ 20 * (20 * 16777216) := Int.mul_le_mul (by omega) p1 p0 (by decide)
    exact ⟨bx_nonneg (fun _ => bx_nonneg U0 _ _) _ _, bx_le (fun _ => bx_le U1 _ _) _ _, by omega⟩
  have VN : ∀ j, j < 0 → bx (bx U a) b j = 0 := fun j hj => bx_neg (fun t ht => bx_neg UN a ht) b hj
  have zA : zN (bchk (wr ((wr x).tmod 20 + 1)) (wr ((wr y).tmod 20 + 1))) (wr ((wr x).tmod 20 + 1)).toNat = a := by rw [zN0 bc, ea, Int.toNat_natCast]
  have zB : zN (bchk (wr ((wr x).tmod 20 + 1)) (wr ((wr y).tmod 20 + 1))) (wr ((wr y).tmod 20 + 1)).toNat = b := by rw [zN0 bc, eb, Int.toNat_natCast]
  have eN : wr (wr ((n : Int) + wr ((wr x).tmod 20 + 1)) + wr ((wr y).tmod 20 + 1)) = (n + a + b : Nat) := by rw [ea, eb, wr_id (n := (n : Int) + a) (by omega) (by omega), wr_id (by omega) (by omega)]; omega
  refine LoopOK.mk ⟨{ x : Nat × (Nat → Int) × (Nat → Int) × Int // x.1 ≤ n + a + b ∧ FInv a b U x.1 x.2.1 x.2.2.1 }, fun x => mkSt [(1, .sl 1 n fun i _ => .int .i64 (L i)), (2, .int .i64 M), (7, .int .i64 a), (8, .int .i64 b), (9, .loc 9 0), (48, .int .i64 (n + a + b : Nat)), (49, .int .i64 x.1.1)]
    [(9, ⟨50, 8, 1, fun _ j => nth [.int .i64 a, .int .i64 b, .sl 1 a fun i _ => .int .i64 (x.1.2.1 i), .sl 1 b fun i _ => .int .i64 (x.1.2.2.1 i), .int .i64 x.1.2.2.2, .int .i64 (bx (bx U a) b (x.1.1 - 1)), .int .i64 (bx (bx U a) b (x.1.1 - 1) - bx (bx U a) b (x.1.1 - 2)), .int .i64 (bx (bx U a) b (x.1.1 - 1) - bx (bx U a) b (x.1.1 - 2) - (bx (bx U a) b (x.1.1 - 2) - bx (bx U a) b (x.1.1 - 3)))] j, 0, true⟩)], fun x => n + a + b - x.1.1,
    ⟨⟨(0, fun _ => 0, fun _ => 0, 0), by show 0 ≤ _; omega, finv0 UN⟩, ?_⟩, ?_⟩
  · refine wk_of [(9, some 9)] rfl ⟨⟨rfl, rfl⟩, ⟨rfl, rfl⟩, ⟨congrArg (AV.int .i64) ea, rfl⟩, ⟨congrArg (AV.int .i64) eb, rfl⟩, rfl, ⟨congrArg (AV.int .i64) eN, rfl⟩, ⟨rfl, rfl⟩, trivial⟩ ⟨RowLe.fin rfl rfl rfl rfl rfl ⟨trivial, ⟨⟨⟨⟨⟨⟨⟨⟨trivial, ?_⟩, ?_⟩, ?_⟩, ?_⟩, ?_⟩, ?_⟩, ?_⟩, ?_⟩⟩, trivial⟩
    · exact renI ((zI0 bc).trans ea)
    · exact renI ((zI0 bc).trans eb)
    · exact renS zA rfl
    · exact renS zB rfl
    · exact renI (zI0 bc)
    · exact renI ((zI0 bc).trans (VN _ (by show (0 : Int) - 1 < 0; decide)).symm)
    · exact renI ((zI0 bc).trans (by show (0 : Int) = bx (bx U a) b (0 - 1) - bx (bx U a) b (0 - 2); rw [VN _ (by decide), VN _ (by decide)]; rfl))
    · exact renI ((zI0 bc).trans (by show (0 : Int) = bx (bx U a) b (0 - 1) - bx (bx U a) b (0 - 2) - (bx (bx U a) b (0 - 2) - bx (bx U a) b (0 - 3)); rw [VN _ (by decide), VN _ (by decide), VN _ (by decide)]; rfl))
  rintro ⟨⟨k, F, G, p⟩, hk, HI⟩
  have hk : k ≤ n + a + b := hk
  have HI : FInv a b U k F G := HI
  refine Brn.mk (fun h1 => ?_) (fun h1 => ?_)
  · have h1 : (k : Int) < (n + a + b : Nat) := of_decide_eq_true h1
    refine Brn.mk (fun h2 => ?_) (fun h2 => ?_)
    · have h2 : (k : Int) < n := of_decide_eq_true h2
      refine Chk.mk ⟨Int.natCast_nonneg k, h2⟩ ?_
      have hu : clip (L k) 0 M = U k := by rw [← hUd, inU, if_neg (by omega), if_pos h2, Int.toNat_natCast]
      have ck := finv_chk HI hU hA hB
      have nx := finv_next HI hU hA hB hu
      have ve := finv_vel HI hU hA hB hu
      have qe : bx (bx U a) b (((k + 1 : Nat) : Int) - 1) = bx (bx U a) b k := by rw [show ((k + 1 : Nat) : Int) - 1 = k by omega]
      have q2 : bx (bx U a) b (((k + 1 : Nat) : Int) - 2) = bx (bx U a) b (k - 1) := by rw [show ((k + 1 : Nat) : Int) - 2 = k - 1 by omega]
      have q3 : bx (bx U a) b (((k + 1 : Nat) : Int) - 3) = bx (bx U a) b (k - 2) := by rw [show ((k + 1 : Nat) : Int) - 3 = k - 2 by omega]
      have b0 := VB k
      have b1 := VB (k - 1)
      have b2 := VB (k - 2)
      have ac := acc_gen U0 U1 a b k
      have ac' := acc_gen' U0 U1 a b k
      have je := jerk_gen U0 U1 a b k
      have ae : dif (vel a b F G (clip (L k) 0 M)) (bx (bx U a) b (k - 1)) = bx (bx U a) b k - bx (bx U a) b (k - 1) := by rw [ve, dif_eq (by omega) (by omega)]
      have je' : dif (dif (vel a b F G (clip (L k) 0 M)) (bx (bx U a) b (k - 1))) (bx (bx U a) b (k - 1) - bx (bx U a) b (k - 2)) = bx (bx U a) b k - bx (bx U a) b (k - 1) - (bx (bx U a) b (k - 1) - bx (bx U a) b (k - 2)) := by rw [ae, dif_eq (by omega) (by omega)]
      refine Chk.mk ⟨isI_mk, isI_mk, by omega, by omega⟩ ?_
      refine Brn.mk (fun q => absurd ck (ndT q)) (fun _ => ?_)
      refine Chk.mk ⟨by rw [m1]; exact m4, by rw [m1]; exact m5⟩ ?_
      refine Brn.mk (fun q => absurd ?_ (ndT q)) (fun _ => ?_)
      · rw [m1]
        have : zI (fchk a b a b F G) (vel a b F G (clip (L k) 0 M)) = bx (bx U a) b k := (zI0 ck).trans ve
        exact ⟨Int.le_trans (Int.le_of_eq this) b0.2.1, Int.le_trans (by omega) (Int.le_of_eq this.symm)⟩
      refine Chk.mk ⟨by rw [m2]; exact m6, by rw [m2]; exact m7⟩ ?_
      refine Brn.mk (fun q => absurd ?_ (ndT q)) (fun _ => ?_)
      · rw [m2]
        have : zI (fchk a b a b F G) (dif (vel a b F G (clip (L k) 0 M)) (bx (bx U a) b (k - 1))) = bx (bx U a) b k - bx (bx U a) b (k - 1) := (zI0 ck).trans ae
        exact ⟨Int.le_trans (Int.le_of_eq this) (by rcases m8 with e | e <;> omega), Int.le_trans (by rcases m8 with e | e <;> omega) (Int.le_of_eq this.symm)⟩
      refine Chk.mk ⟨by rw [m3]; omega, by rw [m3]; omega⟩ ?_
      refine Brn.mk (fun q => absurd ?_ (ndT q)) (fun _ => ?_)
      · rw [m3]
        have : zI (fchk a b a b F G) (dif (dif (vel a b F G (clip (L k) 0 M)) (bx (bx U a) b (k - 1))) (bx (bx U a) b (k - 1) - bx (bx U a) b (k - 2))) = bx (bx U a) b k - bx (bx U a) b (k - 1) - (bx (bx U a) b (k - 1) - bx (bx U a) b (k - 2)) := (zI0 ck).trans je'
        exact ⟨Int.le_trans (Int.le_of_eq this) (by omega), Int.le_trans (by omega) (Int.le_of_eq this.symm)⟩
      refine ⟨⟨(k + 1, shf F a (uC (clip (L k) 0 M)), shf G b (sm1 a F (clip (L k) 0 M)), pos p (vel a b F G (clip (L k) 0 M))), by show k + 1 ≤ _; omega, nx⟩, by show n + a + b - (k + 1) < n + a + b - k; omega, ?_⟩
      refine wk_of [(9, some 9)] rfl ⟨⟨rfl, rfl⟩, ⟨rfl, rfl⟩, ⟨rfl, rfl⟩, ⟨rfl, rfl⟩, rfl, ⟨rfl, rfl⟩, ⟨wrS (i := k) (by omega), rfl⟩, trivial⟩ ⟨RowLe.fin rfl rfl rfl rfl rfl ⟨trivial, ⟨⟨⟨⟨⟨⟨⟨⟨trivial, ?_⟩, ?_⟩, ?_⟩, ?_⟩, ?_⟩, ?_⟩, ?_⟩, ?_⟩⟩, trivial⟩
      · exact renI (zI0 ck)
      · exact renI (zI0 ck)
      · exact renS (zN0 ck) rfl
      · exact renS (zN0 ck) rfl
      · exact renI (zI0 ck)
      · exact renI (((zI0 ck).trans ve).trans qe.symm)
      · exact renI (((zI0 ck).trans ae).trans (by rw [qe, q2]))
      · exact renI (((zI0 ck).trans je').trans (by rw [qe, q2, q3]))
    · have h2 : ¬ (k : Int) < n := of_decide_eq_false h2
      have hu : (0 : Int) = U k := by rw [← hUd, inU, if_neg (by omega), if_neg h2]
      have ck := finv_chk HI hU hA hB
      have nx := finv_next HI hU hA hB hu
      have ve := finv_vel HI hU hA hB hu
      have qe : bx (bx U a) b (((k + 1 : Nat) : Int) - 1) = bx (bx U a) b k := by rw [show ((k + 1 : Nat) : Int) - 1 = k by omega]
      have q2 : bx (bx U a) b (((k + 1 : Nat) : Int) - 2) = bx (bx U a) b (k - 1) := by rw [show ((k + 1 : Nat) : Int) - 2 = k - 1 by omega]
      have q3 : bx (bx U a) b (((k + 1 : Nat) : Int) - 3) = bx (bx U a) b (k - 2) := by rw [show ((k + 1 : Nat) : Int) - 3 = k - 2 by omega]
      have b0 := VB k
      have b1 := VB (k - 1)
      have b2 := VB (k - 2)
      have ac := acc_gen U0 U1 a b k
      have ac' := acc_gen' U0 U1 a b k
      have je := jerk_gen U0 U1 a b k
      have ae : dif (vel a b F G ((0 : Int))) (bx (bx U a) b (k - 1)) = bx (bx U a) b k - bx (bx U a) b (k - 1) := by rw [ve, dif_eq (by omega) (by omega)]
      have je' : dif (dif (vel a b F G ((0 : Int))) (bx (bx U a) b (k - 1))) (bx (bx U a) b (k - 1) - bx (bx U a) b (k - 2)) = bx (bx U a) b k - bx (bx U a) b (k - 1) - (bx (bx U a) b (k - 1) - bx (bx U a) b (k - 2)) := by rw [ae, dif_eq (by omega) (by omega)]
      refine Chk.mk ⟨isI_mk, isI_mk, by omega, by omega⟩ ?_
      refine Brn.mk (fun q => absurd ck (ndT q)) (fun _ => ?_)
      refine Chk.mk ⟨by rw [m1]; exact m4, by rw [m1]; exact m5⟩ ?_
      refine Brn.mk (fun q => absurd ?_ (ndT q)) (fun _ => ?_)
      · rw [m1]
        have : zI (fchk a b a b F G) (vel a b F G ((0 : Int))) = bx (bx U a) b k := (zI0 ck).trans ve
        exact ⟨Int.le_trans (Int.le_of_eq this) b0.2.1, Int.le_trans (by omega) (Int.le_of_eq this.symm)⟩
      refine Chk.mk ⟨by rw [m2]; exact m6, by rw [m2]; exact m7⟩ ?_
      refine Brn.mk (fun q => absurd ?_ (ndT q)) (fun _ => ?_)
      · rw [m2]
        have : zI (fchk a b a b F G) (dif (vel a b F G ((0 : Int))) (bx (bx U a) b (k - 1))) = bx (bx U a) b k - bx (bx U a) b (k - 1) := (zI0 ck).trans ae
        exact ⟨Int.le_trans (Int.le_of_eq this) (by rcases m8 with e | e <;> omega), Int.le_trans (by rcases m8 with e | e <;> omega) (Int.le_of_eq this.symm)⟩
      refine Chk.mk ⟨by rw [m3]; omega, by rw [m3]; omega⟩ ?_
      refine Brn.mk (fun q => absurd ?_ (ndT q)) (fun _ => ?_)
      · rw [m3]
        have : zI (fchk a b a b F G) (dif (dif (vel a b F G ((0 : Int))) (bx (bx U a) b (k - 1))) (bx (bx U a) b (k - 1) - bx (bx U a) b (k - 2))) = bx (bx U a) b k - bx (bx U a) b (k - 1) - (bx (bx U a) b (k - 1) - bx (bx U a) b (k - 2)) := (zI0 ck).trans je'
        exact ⟨Int.le_trans (Int.le_of_eq this) (by omega), Int.le_trans (by omega) (Int.le_of_eq this.symm)⟩
      refine ⟨⟨(k + 1, shf F a (uC ((0 : Int))), shf G b (sm1 a F ((0 : Int))), pos p (vel a b F G ((0 : Int)))), by show k + 1 ≤ _; omega, nx⟩, by show n + a + b - (k + 1) < n + a + b - k; omega, ?_⟩
      refine wk_of [(9, some 9)] rfl ⟨⟨rfl, rfl⟩, ⟨rfl, rfl⟩, ⟨rfl, rfl⟩, ⟨rfl, rfl⟩, rfl, ⟨rfl, rfl⟩, ⟨wrS (i := k) (by omega), rfl⟩, trivial⟩ ⟨RowLe.fin rfl rfl rfl rfl rfl ⟨trivial, ⟨⟨⟨⟨⟨⟨⟨⟨trivial, ?_⟩, ?_⟩, ?_⟩, ?_⟩, ?_⟩, ?_⟩, ?_⟩, ?_⟩⟩, trivial⟩
      · exact renI (zI0 ck)
      · exact renI (zI0 ck)
      · exact renS (zN0 ck) rfl
      · exact renS (zN0 ck) rfl
      · exact renI (zI0 ck)
      · exact renI (((zI0 ck).trans ve).trans qe.symm)
      · exact renI (((zI0 ck).trans ae).trans (by rw [qe, q2]))
      · exact renI (((zI0 ck).trans je').trans (by rw [qe, q2, q3]))
  · have h1 : ¬ (k : Int) < (n + a + b : Nat) := of_decide_eq_false h1
    refine Chk.mk ⟨isI_mk, isI_mk, by omega, by omega⟩ ?_
    exact AVle.bit (rest_true HI hU hA hB (i := k) (n := n) (by omega) (fun t ht => by rw [← hUd]; exact inU_end ht))

theorem lifted9 (os : Os) (started : os.Started) (H : Type) (enc : TypeId × Value → H) :
    ReturnsInHanded {} Try.checked os 9 .any (Rows.profileStopsSpec.pre6 enc Try.prog Try.f9 Rows.profileStopsRow.domain false) (Rows.profileStopsSpec.post enc Try.prog Try.f9 false true false false) := by
  refine returnsInHanded_of_change (C := Try.checked) own0 started (by kernel_rfl) Try.func9
    (ChangeSpec.witness6 (enc := enc) (C := Try.checked) false ⟨#[], #[.agg #[.int .u8 0, .int .u8 0], .slice none 0 0, .int .i64 0], []⟩ 8 (by kernel_rfl) (by kernel_rfl) (by kernel_rfl) (by kernel_rfl)) ?_
  intro W base args ds gs before hval hW _ _
  exact law_contract tabE0 (d := 9) (tb := 4) [60, 48, 3] (by kernel_rfl) (by kernel_rfl) (by kernel_rfl) rfl laidOut0 (by kernel_rfl) (by kernel_rfl)
    (fun H ds h => match ds, h with | [_, _, _], _ => rfl) law9 hval hW

theorem ProfileStops_proved : Rows.ProfileStopsSaid :=
  OpenClaim.holds_of_wide (p := Try.pinned) (s := Rows.profileStopsSpec) (c := Rows.profileStopsRow) 9 Try.f9 rfl rfl rfl rfl rfl rfl rfl ⟨rfl, rfl, rfl, rfl, rfl⟩ rfl rfl rfl rfl rfl (by kernel_rfl) Try.func9 (by kernel_rfl)
    (of_decide_eq_true (by kernel_rfl)) (by unfold Func.isWrapper; rw [if_neg (of_decide_eq_false (by kernel_rfl))]; exact ⟨rfl, rfl⟩)
    (fun os started H enc _ => lifted9 os started H enc)
end
end Go.Proofs.Ytpndkmppncpkgaa
