/- Chapter 48: with more faults present, the reaction is never milder. Conditions: none. -/
import Derived.Test.YtiodcjbpfhfmbaaFlt10
import Derived.Test.YtiodcjbpfhfmbaaRows
import Derived.ProofKit
namespace Go.Proofs.Ytiodcjbpfhfmbaa
open Go Go.Proofs.Ytiodcjbpfhfmbaa.AI Go.Proofs Go.Proofs.Ytiodcjbpfhfmbaa.Img Go.ChangeShapes Go.WideShapes Go.ChangeAt Go.RowKit
noncomputable section
set_option maxRecDepth 100000

theorem law7 (avs : List AV) (H : ArgAll E0 9 [22, 44, 54] avs) : FnOK Try.prog TE 7 avs (.bit true) := by
  obtain ⟨l1, l2, l3, h1, h2, h3, rfl⟩ := argAll3 H
  obtain ⟨n, f, rfl, hf⟩ := openRul h1
  obtain ⟨m, g, rfl, hg⟩ := openTk h2
  obtain ⟨m2, e, rfl, he⟩ := openUs h3
  show FnOK Try.prog TE 7 [.sl 2 n f, .sl 3 m g, .sl 1 m2 e] (.bit true)
  refine FnOK.args (m := [.sl 2 n (rulF (vI f) (vL f)), .sl 3 m (tkF (vI g) (vP g) (vQ g)), .sl 1 m2 (fun i _ => .int .u32 (vI e i))]) ?_ ⟨le2_sl hf.le1, le2_sl (hg _), le2_sl (he _), trivial⟩
  generalize vI f = r
  generalize vL f = l
  generalize vI g = w
  generalize vP g = pa
  generalize vQ g = ps
  generalize vI e = mo
  refine fn_ofF tabsOK (specOK_cons ok10 (specOK_cons ok12 (specOK_cons ok18b (specOK_cons ok21 (specOK_cons ok22 specOK_nil))))) mixed Try.func7 (by kernel_rfl) ?_
  refine Chk.mk isR_mk ?_
  refine Brn.mk (fun _ => AVle.bit rfl) (fun q => ?_)
  obtain ⟨hn, hm, hr⟩ := valid_ok (n := n) (m := m) (r := r) q
  obtain ⟨n1, n32, hrr⟩ := rchk_zero hr
  refine Chk.mk ⟨isR_mk, by omega⟩ ?_
  refine Chk.mk ⟨isR_mk, by omega⟩ ?_
  refine Brn.mk (fun q => absurd hr (ndT q)) (fun _ => ?_)
  refine Brn.mk (fun q => absurd hr (ndT q)) (fun _ => ?_)
  refine LoopOK.mk ⟨{ p : Nat × FS × FS // p.1 ≤ m ∧ p.2.1.ok ∧ p.2.2.ok ∧ (∀ i, i < n → p.2.1.y i = true → p.2.2.y i = true) ∧ p.2.1.re ≤ p.2.2.re }, fun p => mkSt [(0, .sl 2 n (rulF r l)), (1, .sl 3 m (tkF w pa ps)), (2, .sl 1 m2 (fun i _ => .int .u32 (mo i))), (7, .loc 7 0), (9, .loc 9 0), (11, .int .i64 p.1.1)]
    [(7, ⟨28, 5, 1, fun _ j => nth (p.1.2.1.l n) j, 0, true⟩), (9, ⟨28, 5, 1, fun _ j => nth (p.1.2.2.l n) j, 0, true⟩)], fun p => m - p.1.1, ⟨⟨(0, FS.zero, FS.zero), Nat.zero_le _, FS.zero_ok, FS.zero_ok, fun _ _ h => h, Int.le_refl _⟩, ?_⟩, ?_⟩
  · refine wk_of [(7, some 7), (9, some 9)] rfl ⟨⟨rfl, rfl⟩, ⟨rfl, rfl⟩, ⟨rfl, rfl⟩, rfl, rfl, ⟨rfl, rfl⟩, trivial⟩ ⟨RowLe.fin rfl rfl rfl rfl rfl ⟨trivial, ⟨⟨⟨⟨⟨trivial, ?_⟩, ?_⟩, ?_⟩, ?_⟩, ?_⟩⟩, RowLe.fin rfl rfl rfl rfl rfl ⟨trivial, ⟨⟨⟨⟨⟨trivial, ?_⟩, ?_⟩, ?_⟩, ?_⟩, ?_⟩⟩, trivial⟩
    · exact renS (zN0 hr) rfl
    · exact renS (zN0 hr) rfl
    · exact renI rfl
    · exact renI rfl
    · exact renS rfl rfl
    · exact renS (zN0 hr) rfl
    · exact renS (zN0 hr) rfl
    · exact renI rfl
    · exact renI rfl
    · exact renS rfl rfl
  rintro ⟨⟨k, s, t⟩, hk, hs, ht, hy, hre⟩
  have hk : k ≤ m := hk
  have hs : s.ok := hs
  have ht : t.ok := ht
  have hy : ∀ i, i < n → s.y i = true → t.y i = true := hy
  have hre : s.re ≤ t.re := hre
  have hsk := hs.k
  have htk := ht.k
  have es := FS.stp0 (n := n) hr hs
  have et := FS.stp0 (n := n) hr ht
  refine Brn.mk (fun h1 => ?_) (fun _ => AVle.bit rfl)
  have h1 : (k : Int) < m := of_decide_eq_true h1
  have ix : (0 : Int) ≤ (k : Int) ∧ (k : Int) < (m : Int) := ⟨Int.natCast_nonneg k, h1⟩
  refine Chk.mk ix ?_
  refine Chk.mk ix ?_
  refine Chk.mk (by kernel_rfl) ?_
  refine Brn.mk (fun h2 => ?_) (fun _ => ?_)
  · obtain ⟨b, hb⟩ : ∃ b, b = uor (w k) (mo k) := ⟨_, rfl⟩
    have hab : ∀ i, i < n → bw (w k) i = true → bw b i = true := fun i hi q => by rw [hb, bw_or (by omega), q, Bool.true_or]
    have h2 : (k : Int) < m2 := of_decide_eq_true h2
    refine Chk.mk ⟨Int.natCast_nonneg k, h2⟩ ?_
    refine Chk.mk (by kernel_rfl) ?_
    refine Chk.mk ⟨Int.natCast_nonneg n, (show (n : Int) ≤ 1000 by omega)⟩ ?_
    refine Chk.mk ⟨⟨isR_mk, by omega⟩, stOK_mk (by omega) (by omega) (show s.k ≤ 1000 by omega), isB_mk, (show n ≤ 1000 by omega)⟩ ?_
    refine Chk.mk (by kernel_rfl) ?_
    refine Chk.mk ⟨Int.natCast_nonneg n, (show (n : Int) ≤ 1000 by omega)⟩ ?_
    refine Chk.mk ⟨⟨isR_mk, by omega⟩, stOK_mk (by omega) (by omega) (show t.k ≤ 1000 by omega), isB_mk, (show n ≤ 1000 by omega)⟩ ?_
    refine Chk.mk (by kernel_rfl) ?_
    have okS := FS.next_ok (n := n) (l := l) (now := bw (w k)) (ack := false) (still := ps k) hr hs
    have okT := FS.next_ok (n := n) (l := l) (now := bw b) (ack := false) (still := ps k) hr ht
    obtain ⟨my, mre⟩ := FS.next_mono (n := n) (l := l) (still := ps k) hr hab hy hre
    refine Brn.mk (fun q => absurd es (ndT q)) (fun _ => ?_)
    refine Brn.mk (fun q => absurd et (ndT q)) (fun _ => ?_)
    subst hb
    refine Brn.mk (fun q => absurd (of_decide_eq_true (show decide (zI (stpE n r n n t.re t.tk t.k n) (t.next n r l (bw (uor (w k) (mo k))) false (ps k)).re < zI (stpE n r n n s.re s.tk s.k n) (s.next n r l (bw (w k)) false (ps k)).re) = true from q)) (by rw [zI0 es, zI0 et]; omega)) (fun _ => ?_)
    refine Chk.mk (by kernel_rfl) ?_
    refine ⟨⟨(k + 1, s.next n r l (bw (w k)) false (ps k), t.next n r l (bw (uor (w k) (mo k))) false (ps k)), by show k + 1 ≤ m; omega, okS, okT, my, mre⟩, by show m - (k + 1) < m - k; omega, ?_⟩
    refine wk_of [(7, some 7), (9, some 9)] rfl ⟨⟨rfl, rfl⟩, ⟨rfl, rfl⟩, ⟨rfl, rfl⟩, rfl, rfl, ⟨wrS (i := k) (by omega), rfl⟩, trivial⟩ ⟨RowLe.fin rfl rfl rfl rfl rfl ⟨trivial, ⟨⟨⟨⟨⟨trivial, ?_⟩, ?_⟩, ?_⟩, ?_⟩, ?_⟩⟩, RowLe.fin rfl rfl rfl rfl rfl ⟨trivial, ⟨⟨⟨⟨⟨trivial, ?_⟩, ?_⟩, ?_⟩, ?_⟩, ?_⟩⟩, trivial⟩
    · exact renS (zN0 es) rfl
    · exact renS (zN0 es) rfl
    · exact renI (zI0 es)
    · exact renI (zI0 es)
    · exact renS (zN0 es) rfl
    · exact renS (zN0 et) rfl
    · exact renS (zN0 et) rfl
    · exact renI (zI0 et)
    · exact renI (zI0 et)
    · exact renS (zN0 et) rfl
  · obtain ⟨b, hb⟩ : ∃ b, b = w k := ⟨_, rfl⟩
    have hab : ∀ i, i < n → bw (w k) i = true → bw b i = true := fun i hi q => by rw [hb]; exact q
    refine Chk.mk ⟨Int.natCast_nonneg n, (show (n : Int) ≤ 1000 by omega)⟩ ?_
    refine Chk.mk ⟨⟨isR_mk, by omega⟩, stOK_mk (by omega) (by omega) (show s.k ≤ 1000 by omega), isB_mk, (show n ≤ 1000 by omega)⟩ ?_
    refine Chk.mk (by kernel_rfl) ?_
    refine Chk.mk ⟨Int.natCast_nonneg n, (show (n : Int) ≤ 1000 by omega)⟩ ?_
    refine Chk.mk ⟨⟨isR_mk, by omega⟩, stOK_mk (by omega) (by omega) (show t.k ≤ 1000 by omega), isB_mk, (show n ≤ 1000 by omega)⟩ ?_
    refine Chk.mk (by kernel_rfl) ?_
    have okS := FS.next_ok (n := n) (l := l) (now := bw (w k)) (ack := false) (still := ps k) hr hs
    have okT := FS.next_ok (n := n) (l := l) (now := bw b) (ack := false) (still := ps k) hr ht
    obtain ⟨my, mre⟩ := FS.next_mono (n := n) (l := l) (still := ps k) hr hab hy hre
    refine Brn.mk (fun q => absurd es (ndT q)) (fun _ => ?_)
    refine Brn.mk (fun q => absurd et (ndT q)) (fun _ => ?_)
    subst hb
    refine Brn.mk (fun q => absurd (of_decide_eq_true (show decide (zI (stpE n r n n t.re t.tk t.k n) (t.next n r l (bw (w k)) false (ps k)).re < zI (stpE n r n n s.re s.tk s.k n) (s.next n r l (bw (w k)) false (ps k)).re) = true from q)) (by rw [zI0 es, zI0 et]; omega)) (fun _ => ?_)
    refine Chk.mk (by kernel_rfl) ?_
    refine ⟨⟨(k + 1, s.next n r l (bw (w k)) false (ps k), t.next n r l (bw (w k)) false (ps k)), by show k + 1 ≤ m; omega, okS, okT, my, mre⟩, by show m - (k + 1) < m - k; omega, ?_⟩
    refine wk_of [(7, some 7), (9, some 9)] rfl ⟨⟨rfl, rfl⟩, ⟨rfl, rfl⟩, ⟨rfl, rfl⟩, rfl, rfl, ⟨wrS (i := k) (by omega), rfl⟩, trivial⟩ ⟨RowLe.fin rfl rfl rfl rfl rfl ⟨trivial, ⟨⟨⟨⟨⟨trivial, ?_⟩, ?_⟩, ?_⟩, ?_⟩, ?_⟩⟩, RowLe.fin rfl rfl rfl rfl rfl ⟨trivial, ⟨⟨⟨⟨⟨trivial, ?_⟩, ?_⟩, ?_⟩, ?_⟩, ?_⟩⟩, trivial⟩
    · exact renS (zN0 es) rfl
    · exact renS (zN0 es) rfl
    · exact renI (zI0 es)
    · exact renI (zI0 es)
    · exact renS (zN0 es) rfl
    · exact renS (zN0 et) rfl
    · exact renS (zN0 et) rfl
    · exact renI (zI0 et)
    · exact renI (zI0 et)
    · exact renS (zN0 et) rfl

theorem lifted7 (os : Os) (started : os.Started) (H : Type) (enc : TypeId × Value → H) :
    ReturnsInHanded {} Try.checked os 7 .any (Rows.faultsMonotoneSpec.pre6 enc Try.prog Try.f7 Rows.faultsMonotoneRow.domain false) (Rows.faultsMonotoneSpec.post enc Try.prog Try.f7 false true false false) := by
  refine returnsInHanded_of_change (C := Try.checked) own0 started (by kernel_rfl) Try.func7
    (ChangeSpec.witness6 (enc := enc) (C := Try.checked) false ⟨#[], #[.slice none 0 0, .slice none 0 0, .slice none 0 0], []⟩ 8 (by kernel_rfl) (by kernel_rfl) (by kernel_rfl) (by kernel_rfl)) ?_
  intro W base args ds gs before hval hW _ _
  exact law_contract tabE0 (d := 9) (tb := 4) [22, 44, 54] (by kernel_rfl) (by kernel_rfl) (by kernel_rfl) rfl laidOut0 (by kernel_rfl) (by kernel_rfl)
    (fun H ds h => match ds, h with | [_, _, _], _ => rfl) law7 hval hW

theorem FaultsMonotone_proved : Rows.FaultsMonotoneSaid :=
  OpenClaim.holds_of_wide (p := Try.pinned) (s := Rows.faultsMonotoneSpec) (c := Rows.faultsMonotoneRow) 7 Try.f7 rfl rfl rfl rfl rfl rfl rfl ⟨rfl, rfl, rfl, rfl, rfl⟩ rfl rfl rfl rfl rfl (by kernel_rfl) Try.func7 (by kernel_rfl)
    (of_decide_eq_true (by kernel_rfl)) (by unfold Func.isWrapper; rw [if_neg (of_decide_eq_false (by kernel_rfl))]; exact ⟨rfl, rfl⟩)
    (fun os started H enc _ => lifted7 os started H enc)
end
end Go.Proofs.Ytiodcjbpfhfmbaa
