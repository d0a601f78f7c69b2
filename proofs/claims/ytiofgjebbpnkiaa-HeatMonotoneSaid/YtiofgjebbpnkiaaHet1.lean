/- Chapter 30: the tables, and the small functions' contracts. Conditions: none. -/
import Derived.Test.YtiofgjebbpnkiaaAiArr
import Derived.Test.YtiofgjebbpnkiaaChecked
namespace Go.Proofs.Ytiofgjebbpnkiaa.Img
open Go Go.Proofs.Ytiofgjebbpnkiaa.AI Go.Proofs
noncomputable section
set_option maxRecDepth 100000
def tabs : List (Nat × TD) := [
  (2, ⟨.int .i64, 1, 8, [.int .i64 0]⟩),
  (3, ⟨.int .i64, 1, 8, [.int .i64 0]⟩),
  (4, ⟨.bool, 1, 1, [.bit false]⟩),
  (5, ⟨.int .u8, 1, 1, [.int .u8 0]⟩),
  (9, ⟨.prim, 1, 16, [.bad]⟩),
  (12, ⟨.int .u64, 1, 8, [.int .u64 0]⟩),
  (13, ⟨.struct [(0, 1, 9), (1, 1, 12)], 2, 24, [.bad, .int .u64 0]⟩),
  (20, ⟨.iface, 1, 16, [.nilI]⟩),
  (21, ⟨.int .i32, 1, 4, [.int .i32 0]⟩),
  (22, ⟨.slice 3, 1, 24, [.nilS]⟩),
  (23, ⟨.slice 22, 1, 24, [.nilS]⟩),
  (24, ⟨.struct [(0, 1, 22), (1, 1, 22), (2, 1, 23)], 3, 72, [.nilS, .nilS, .nilS]⟩),
  (25, ⟨.struct [(0, 1, 22), (1, 1, 22), (2, 1, 23)], 3, 72, [.nilS, .nilS, .nilS]⟩),
  (29, ⟨.iface, 1, 16, [.nilI]⟩),
  (30, ⟨.iface, 1, 16, [.nilI]⟩),
  (33, ⟨.struct [(0, 1, 22), (1, 1, 22), (2, 1, 3)], 3, 56, [.nilS, .nilS, .int .i64 0]⟩),
  (34, ⟨.struct [(0, 1, 22), (1, 1, 22), (2, 1, 3)], 3, 56, [.nilS, .nilS, .int .i64 0]⟩),
  (51, ⟨.int .i64, 1, 8, [.int .i64 0]⟩),
  (55, ⟨.int .u64, 1, 8, [.int .u64 0]⟩),
  (63, ⟨.int .u32, 1, 4, [.int .u32 0]⟩),
  (67, ⟨.prim, 1, 8, [.nilP]⟩)]
theorem tabsOK : (tabs.all fun p => tdOK Try.prog p.1 p.2) = true := by kernel_rfl
theorem mixed : Try.prog.follows .mixedOrders = true := by kernel_rfl
abbrev TE : Nat := 51

def clip (n lo hi : Int) : Int := min (max n lo) hi
def sClip : Sp
  | [.int .i64 n, .int .i64 lo, .int .i64 hi] => .ok (.int .i64 (clip n lo hi))
  | _ => .no
theorem okClip : EntOK Try.prog TE 31 sClip := by
  refine ⟨callable_of Try.func31 (by kernel_rfl), fun args => ?_⟩
  unfold sClip
  split
  · refine fn_ofF tabsOK specOK_nil mixed Try.func31 (by kernel_rfl) ?_
    exact AVle.int rfl
  · trivial
def sClip2 : Sp
  | [.int .i64 n, .int .i64 lo, .int .i64 hi] => .ok (.int .i64 (max lo (min n hi)))
  | _ => .no
theorem okBClip : EntOK Try.prog TE 21 sClip2 := by
  refine ⟨callable_of Try.func21 (by kernel_rfl), fun args => ?_⟩
  unfold sClip2
  split
  · refine fn_ofF tabsOK specOK_nil mixed Try.func21 (by kernel_rfl) ?_
    exact AVle.int rfl
  · trivial
def warm (a : Int) : Int := wr (clip a (-8388608) 8388608 * 65536)
def sWarm : Sp
  | [.int .i64 a] => .ok (.int .i64 (warm a))
  | _ => .no
theorem okWarm : EntOK Try.prog TE 32 sWarm := by
  refine ⟨callable_of Try.func32 (by kernel_rfl), fun args => ?_⟩
  unfold sWarm
  split
  · refine fn_ofF tabsOK (specOK_cons okClip specOK_nil) mixed Try.func32 (by kernel_rfl) ?_
    exact AVle.int rfl
  · trivial
/-- No share. -/
def badS (x : Int) : Bool := decide (x < 0) || decide (65536 < x)
def sShare : Sp
  | [.int .i64 x] => .ok (.bit (!badS x))
  | _ => .no
theorem okShare : EntOK Try.prog TE 29 sShare := by
  refine ⟨callable_of Try.func29 (by kernel_rfl), fun args => ?_⟩
  unfold sShare
  split
  · refine fn_ofF tabsOK specOK_nil mixed Try.func29 (by kernel_rfl) ?_
    refine Brn.mk (fun h => ?_) (fun h => ?_)
    · have h := of_decide_eq_true h
      refine AVle.bit ?_
      simp only [badS]
      rw [Bool.eq_iff_iff]
      simp
      omega
    · have h := of_decide_eq_false h
      refine AVle.bit ?_
      rw [Bool.eq_iff_iff]
      simp [badS]
      omega
  · trivial
def sNum : Sp
  | [.err n] => .ok (.int .i64 n)
  | _ => .no
theorem okNum : EntOK Try.prog TE 13 sNum := by
  refine ⟨callable_of Try.func13 (by kernel_rfl), fun args => ?_⟩
  unfold sNum
  split
  · rename_i n
    refine fn_ofF tabsOK specOK_nil mixed Try.func13 (by kernel_rfl) ?_
    refine Brn.mk (fun h => ?_) (fun h => ?_)
    · refine AVle.int ?_
      simp at h; exact h.symm
    · refine Brn.mk (fun h2 => ?_) (fun h2 => ?_)
      · exact AVle.int rfl
      · simp_all
  · trivial
/-- Two lists of numbers are equal. -/
def sameB (a b : Nat → Int) : Nat → Nat → Bool
  | 0, _ => true
  | k + 1, i => decide (a i = b i) && sameB a b k (i + 1)
theorem sameB_self (a : Nat → Int) : ∀ k i, sameB a a k i = true
  | 0, _ => rfl
  | k + 1, i => by simp [sameB, sameB_self a k]
theorem sameB_of {a b : Nat → Int} : ∀ k i, (∀ j, i ≤ j → j < i + k → a j = b j) → sameB a b k i = true
  | 0, _, _ => rfl
  | k + 1, i, h => by
    rw [sameB, sameB_of k (i + 1) (fun j h1 h2 => h j (by omega) (by omega)), decide_eq_true (h i (Nat.le_refl _) (by omega))]; rfl
def sInts : Sp
  | [.sl s n f, .sl s' m g] => .pre (IsI s n f ∧ IsI s' m g ∧ n ≤ 1048576 ∧ m ≤ 1048576) (.bit (decide ((n : Int) = m) && sameB (vI f) (vI g) n 0))
  | _ => .no
theorem okInts : EntOK Try.prog TE 17 sInts := by
  refine ⟨callable_of Try.func17 (by kernel_rfl), fun args => ?_⟩
  unfold sInts
  split
  · rename_i s n f s' m g
    rintro ⟨h1, h2, hn, hm⟩
    refine FnOK.args ?_ (m := [.sl 1 n fun i _ => .int .i64 (vI f i), .sl 1 m fun i _ => .int .i64 (vI g i)]) ⟨h1.le rfl, h2.le rfl, trivial⟩
    generalize vI f = a
    generalize vI g = b
    refine fn_ofF tabsOK specOK_nil mixed Try.func17 (by kernel_rfl) ?_
    refine Brn.mk (fun h => ?_) (fun h => ?_)
    · refine AVle.bit ?_
      rw [decide_eq_false (by simpa using h)]; rfl
    · have h : (n : Int) = m := by simpa using h
      have h : n = m := by omega
      subst h
      rw [decide_eq_true rfl, Bool.true_and]
      generalize hr : sameB a b n 0 = r
      refine LoopOK.mk ⟨{ i : Nat // i ≤ n ∧ sameB a b (n - i) i = r }, fun i => mkSt [(0, .sl 1 n fun i _ => .int .i64 (a i)), (1, .sl 1 n fun i _ => .int .i64 (b i)), (12, .int .i64 n), (13, .int .i64 i.1)]
        [], fun i => n - i.1, ⟨⟨0, by omega, hr⟩, ?_⟩, ?_⟩
      · exact wk_of [] rfl ⟨⟨rfl, rfl⟩, ⟨rfl, rfl⟩, ⟨rfl, rfl⟩, ⟨rfl, rfl⟩, trivial⟩ trivial
      · rintro ⟨i, hi, hs⟩
        refine Brn.mk (fun h => ?_) (fun h => ?_)
        · have h : (i : Int) < n := of_decide_eq_true h
          have hb : (0 : Int) ≤ (i : Int) ∧ (i : Int) < (n : Int) := ⟨by omega, h⟩
          obtain ⟨k, hk⟩ : ∃ k, n - i = k + 1 := ⟨n - i - 1, by omega⟩
          rw [hk, sameB] at hs
          refine Chk.mk hb (Chk.mk hb ?_)
          refine Brn.mk (fun h3 => ?_) (fun h3 => ?_)
          · refine AVle.bit ?_
            have h3 : ¬ a i = b i := by simpa using h3
            rw [decide_eq_false h3] at hs
            exact hs
          · have h3 : a i = b i := by simpa using h3
            rw [decide_eq_true h3, Bool.true_and] at hs
            refine ⟨⟨i + 1, by omega, by rw [show n - (i + 1) = k by omega]; exact hs⟩, by show n - (i + 1) < n - i; omega, ?_⟩
            exact wk_of [] rfl ⟨⟨rfl, rfl⟩, ⟨rfl, rfl⟩, ⟨rfl, rfl⟩, ⟨wrS (i := i) (by omega), rfl⟩, trivial⟩ trivial
        · have h : ¬ (i : Int) < n := of_decide_eq_false h
          rw [show n - i = 0 by omega] at hs
          exact AVle.bit hs
  · trivial
end
end Go.Proofs.Ytiofgjebbpnkiaa.Img
