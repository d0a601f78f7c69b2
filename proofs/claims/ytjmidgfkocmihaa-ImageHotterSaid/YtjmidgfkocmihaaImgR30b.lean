/- The reference of layer 30: Step. Conditions: none. -/
import Derived.Test.YtjmidgfkocmihaaImgR30
namespace Go.Proofs.Ytjmidgfkocmihaa.Img
open Go Go.Proofs.Ytjmidgfkocmihaa.AI Go.Proofs
noncomputable section
set_option maxRecDepth 100000

/-- A heat, a power in their ranges. -/
def hC (z : Int) : Int := max (-1099511627776) (min z 1099511627776)
def pC (z : Int) : Int := max 0 (min z 1073741824)
def accR (am amb h : Int) (lk hs : Nat → Int) : Nat → Int
  | 0 => wr (am * wr (ambR amb - h))
  | j + 1 => wr (accR am amb h lk hs j + wr (lk j * wr (hC (hs j) - h)))
def stepR (n : Nat) (g am : Nat → Int) (lk : Nat → Nat → Int) (hs ps : Nat → Int) (amb : Int) (i : Nat) : Int :=
  hC (wr (hC (hs i) + wr (floorI (accR (am i) amb (hC (hs i)) (lk i) hs n) 65536 + wr (g i * pC (ps i)))))
def sR30step : Sp
  | [.agg [.sl s1 n1 gf, .sl s2 n2 af, .sl s3 n3 lf], .sl s4 n hf, .sl s5 m pf, .int .i64 amb] =>
    .pre ((n = n1 ∧ n = n2 ∧ n = n3 ∧ n = m ∧ n ≤ 1048576) ∧ IsI s1 n gf ∧ IsI s2 n af ∧ IsII s3 n n lf ∧ IsI s4 n hf ∧ IsI s5 n pf)
      (.sl 1 n fun i _ => .int .i64 (stepR n (vI gf) (vI af) (vII lf) (vI hf) (vI pf) amb i))
  | _ => .no
theorem okR30step : EntOK Try.prog TE 31 sR30step := by
  refine ⟨callable_of Try.func31 (by kernel_rfl), fun args => ?_⟩
  unfold sR30step
  split
  · rename_i s1 n1 gf s2 n2 af s3 n3 lf s4 n hf s5 m pf amb
    rintro ⟨⟨e1, e2, e3, e4, hn⟩, h1, h2, h3, h4, h5⟩
    subst e1 e2 e3 e4
    refine FnOK.args ?_ (m := [.agg [.sl 1 n fun i _ => .int .i64 (vI gf i), .sl 1 n fun i _ => .int .i64 (vI af i), .sl 1 n fun i _ => .sl 1 n fun j _ => .int .i64 (vII lf i j)],
      .sl 1 n fun i _ => .int .i64 (vI hf i), .sl 1 n fun i _ => .int .i64 (vI pf i), .int .i64 amb])
      ⟨.aggL ⟨h1.le1 rfl, h2.le1 rfl, h3.le1 rfl, trivial⟩, h4.le rfl, h5.le rfl, .refl, trivial⟩
    generalize vI gf = g
    generalize vI af = am
    generalize vII lf = lk
    generalize vI hf = hs
    generalize vI pf = ps
    refine fn_ofF tabsOK (specOK_cons okR30clip (specOK_cons okR30floor (specOK_cons okR30amb specOK_nil))) mixed Try.func31 (by kernel_rfl) ?_
    refine LoopOK.mk ⟨{ i : Nat // i ≤ n }, fun i => mkSt [(1, .sl 1 n fun i _ => .int .i64 (hs i)), (2, .sl 1 n fun i _ => .int .i64 (ps i)), (3, .int .i64 amb), (4, .loc 4 0), (9, .own 100 i.1), (10, .int .i64 i.1)]
      [(4, ⟨47, 3, 1, fun _ j => nth [.sl 1 n fun i _ => .int .i64 (g i), .sl 1 n fun i _ => .int .i64 (am i), .sl 1 n fun i _ => .sl 1 n fun j _ => .int .i64 (lk i j)] j, 0, true⟩),
        (100, ⟨3, 1, i.1, fun i _ => .int .i64 (stepR n g am lk hs ps amb i), 1, false⟩)], fun i => n - i.1, ⟨⟨0, by omega⟩, ?_⟩, ?_⟩
    · refine wk_of [(4, some 4), (100, some 14)] rfl ⟨⟨rfl, rfl⟩, ⟨rfl, rfl⟩, ⟨rfl, rfl⟩, rfl, rfl, ⟨rfl, rfl⟩, trivial⟩ ⟨RowLe.fin rfl rfl rfl rfl rfl ?_, RowLe.fin rfl rfl rfl rfl rfl ?_, trivial⟩
      (repeat' first | exact trivial | exact ⟨by kernel_rfl, by kernel_rfl⟩ | exact Or.inr (by kernel_rfl) | refine ⟨?_, ?_⟩)
      (repeat' first | exact trivial | exact ⟨by kernel_rfl, by kernel_rfl⟩ | exact Or.inr (by kernel_rfl) | refine ⟨?_, ?_⟩)
    · rintro ⟨i, hi⟩
      refine Brn.mk (fun h => ?_) (fun h => ?_)
      · have h : (i : Int) < n := by simpa using h
        have hb : (0 : Int) ≤ (i : Int) ∧ (i : Int) < (n : Int) := ⟨by omega, h⟩
        refine Chk.mk hb (Chk.mk hb ?_)
        refine LoopOK.mk ⟨{ j : Nat // j ≤ n }, fun j => mkSt [(1, .sl 1 n fun i _ => .int .i64 (hs i)), (2, .sl 1 n fun i _ => .int .i64 (ps i)), (3, .int .i64 amb), (4, .loc 4 0), (9, .own 100 i), (10, .int .i64 i),
            (11, .int .i64 (hC (hs i))), (12, .int .i64 (accR (am i) amb (hC (hs i)) (lk i) hs j.1)), (13, .int .i64 j.1)]
          [(4, ⟨47, 3, 1, fun _ j => nth [.sl 1 n fun i _ => .int .i64 (g i), .sl 1 n fun i _ => .int .i64 (am i), .sl 1 n fun i _ => .sl 1 n fun j _ => .int .i64 (lk i j)] j, 0, true⟩),
            (100, ⟨3, 1, i, fun i _ => .int .i64 (stepR n g am lk hs ps amb i), 1, false⟩)], fun j => n - j.1, ⟨⟨0, by omega⟩, ?_⟩, ?_⟩
        · refine wk_of [(4, some 4), (100, some 100)] rfl ⟨⟨rfl, rfl⟩, ⟨rfl, rfl⟩, ⟨rfl, rfl⟩, rfl, rfl, ⟨rfl, rfl⟩, ⟨rfl, rfl⟩, ⟨rfl, rfl⟩, ⟨rfl, rfl⟩, trivial⟩ ⟨RowLe.fin rfl rfl rfl rfl rfl ?_, ⟨rfl, rfl, rfl, rfl, rfl, fun _ _ _ _ => Or.inr rfl⟩, trivial⟩
          (repeat' first | exact trivial | exact ⟨by kernel_rfl, by kernel_rfl⟩ | exact Or.inr (by kernel_rfl) | refine ⟨?_, ?_⟩)
        · rintro ⟨j, hj⟩
          refine Brn.mk (fun h => ?_) (fun h => ?_)
          · have h : (j : Int) < n := by simpa using h
            have hbj : (0 : Int) ≤ (j : Int) ∧ (j : Int) < (n : Int) := ⟨by omega, h⟩
            refine Chk.mk hb (Chk.mk hbj (Chk.mk hbj ?_))
            refine ⟨⟨j + 1, by omega⟩, by show n - (j + 1) < n - j; omega, ?_⟩
            refine wk_of [(4, some 4), (100, some 100)] rfl ⟨⟨rfl, rfl⟩, ⟨rfl, rfl⟩, ⟨rfl, rfl⟩, rfl, rfl, ⟨rfl, rfl⟩, ⟨rfl, rfl⟩, ⟨rfl, rfl⟩, ⟨?_, rfl⟩, trivial⟩ ⟨RowLe.fin rfl rfl rfl rfl rfl ?_, ⟨rfl, rfl, rfl, rfl, rfl, fun _ _ _ _ => Or.inr rfl⟩, trivial⟩
            · exact wrS (i := j) (by omega)
            · (repeat' first | exact trivial | exact ⟨by kernel_rfl, by kernel_rfl⟩ | exact Or.inr (by kernel_rfl) | refine ⟨?_, ?_⟩)
          · have h : ¬ (j : Int) < n := by simpa using h
            have hjn : j = n := by omega
            subst hjn
            refine Chk.mk p65536 ?_
            refine Chk.mk hb (Chk.mk hb ?_)
            have hq : (i + 1) * 8 ≤ 140737488355328 ∧ i + 1 ≤ 9223372036854775807 := ⟨by omega, by omega⟩
            refine Chk.mk hq ?_
            refine ⟨⟨i + 1, by omega⟩, by show j - (i + 1) < j - i; omega, ?_⟩
            refine wk_of [(4, some 4), (100, some 80)] rfl ⟨⟨rfl, rfl⟩, ⟨rfl, rfl⟩, ⟨rfl, rfl⟩, rfl, rfl, ⟨?_, rfl⟩, trivial⟩ ⟨RowLe.fin rfl rfl rfl rfl rfl ?_, RowLe.app (n := i) (fun i => .int .i64 (stepR j g am lk hs ps amb i)) rfl rfl rfl (fun _ _ => rfl) rfl, trivial⟩
            · exact wrS (i := i) (by omega)
            · (repeat' first | exact trivial | exact ⟨by kernel_rfl, by kernel_rfl⟩ | exact Or.inr (by kernel_rfl) | refine ⟨?_, ?_⟩)
      · have h : ¬ (i : Int) < n := by simpa using h
        refine AVle.sl (show i = n by omega) fun i j hi hj => rfl
  · trivial
end
end Go.Proofs.Ytjmidgfkocmihaa.Img
