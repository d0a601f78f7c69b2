/- Chapter 37: a filter: new, fed, at rest. Conditions: none. -/
import Derived.Test.YtpndkmppncpkgaaPrf8
namespace Go.Proofs.Ytpndkmppncpkgaa.Img
open Go Go.Proofs.Ytpndkmppncpkgaa.AI Go.Proofs
noncomputable section
set_option maxRecDepth 100000
theorem le1_nil {sz n : Nat} {f : Nat → Nat → AV} {T : TypeId} (h : n = 0) : Le1 T .nilS (.sl sz n f) := by
  subst h
  intro I w ρ v hv
  simp only [Rep1] at hv ⊢
  exact ⟨none, 0, hv, Nat.le_refl _, Nat.zero_le _, fun h => absurd h (by omega)⟩
def zI (c x : Int) : Int := if c = 0 then x else 0
def zN (c : Int) (n : Nat) : Nat := if c = 0 then n else 0
theorem zI0 {c x : Int} (h : c = 0) : zI c x = x := if_pos h
theorem zI1 {c x : Int} (h : ¬ c = 0) : zI c x = 0 := if_neg h
theorem zN0 {c : Int} {n : Nat} (h : c = 0) : zN c n = n := if_pos h
theorem zN1 {c : Int} {n : Nat} (h : ¬ c = 0) : zN c n = 0 := if_neg h
/-- A filter, or the zero filter with an error. -/
def filL (c a b : Int) (n m : Nat) (f g : Nat → Int) (p q r t : Int) : List AV := [.int .i64 (zI c a), .int .i64 (zI c b), .sl 1 (zN c n) (fun i _ => .int .i64 (f i)), .sl 1 (zN c m) (fun i _ => .int .i64 (g i)), .int .i64 (zI c p), .int .i64 (zI c q), .int .i64 (zI c r), .int .i64 (zI c t)]
theorem fil_zero {T : TypeId} {c a b : Int} {n m : Nat} {f g : Nat → Int} {p q r t : Int} (h : ¬ c = 0) :
    AVle2 T (.agg [.int .i64 0, .int .i64 0, .nilS, .nilS, .int .i64 0, .int .i64 0, .int .i64 0, .int .i64 0]) (.agg (filL c a b n m f g p q r t)) := by
  refine .aggL ⟨.of_eq ?_, .of_eq ?_, le1_nil (zN1 h), le1_nil (zN1 h), .of_eq ?_, .of_eq ?_, .of_eq ?_, .of_eq ?_, trivial⟩ <;> rw [zI1 h]
theorem fil_le {T : TypeId} {c a b a' b' : Int} {n m n' m' : Nat} {f g : Nat → Int} {F G : Nat → Nat → AV} {p q r t p' q' r' t' : Int} (h : c = 0) (ha : a' = a) (hb : b' = b) (hn : n' = n) (hm : m' = m)
    (hf : ∀ i, i < n' → F i 0 = .int .i64 (f i)) (hg : ∀ i, i < m' → G i 0 = .int .i64 (g i)) (hp : p' = p) (hq : q' = q) (hr : r' = r) (ht : t' = t) :
    AVle2 T (.agg [.int .i64 a', .int .i64 b', .sl 1 n' F, .sl 1 m' G, .int .i64 p', .int .i64 q', .int .i64 r', .int .i64 t']) (.agg (filL c a b n m f g p q r t)) := by
  subst ha hb hn hm hp hq hr ht
  refine .aggL ⟨.of_eq ?_, .of_eq ?_, .sl (zN0 h).symm fun i j hi hj => .of_eq ?_, .sl (zN0 h).symm fun i j hi hj => .of_eq ?_, .of_eq ?_, .of_eq ?_, .of_eq ?_, .of_eq ?_, trivial⟩
  · rw [zI0 h]
  · rw [zI0 h]
  · have : j = 0 := by omega
    subst this; exact hf i hi
  · have : j = 0 := by omega
    subst this; exact hg i hi
  all_goals rw [zI0 h]
def sNew : Sp
  | [.int .i64 a, .int .i64 b] => .ok (.tup [.agg (filL (bchk a b) a b a.toNat b.toNat (fun _ => 0) (fun _ => 0) 0 0 0 0), .err (bchk a b)])
  | _ => .no
theorem ok26 : EntOK Try.prog TE 26 sNew := by
  refine ⟨callable_of Try.func26 (by kernel_rfl), fun args => ?_⟩
  unfold sNew
  split
  · rename_i a b
    refine fn_ofF tabsOK (specOK_cons ok44 specOK_nil) mixed Try.func26 (by kernel_rfl) ?_
    refine Brn.mk (fun h => ?_) (fun h => ?_)
    · have h : ¬ bchk a b = 0 := ndT h
      exact AVle.tup2 (fil_zero h) (.err rfl)
    have h : bchk a b = 0 := ndF h
    obtain ⟨h1, h2⟩ := bchk0.1 h
    refine Chk.mk ⟨by omega, by omega, by omega, by omega⟩ (Chk.mk ⟨by omega, by omega, by omega, by omega⟩ (Chk.mk (by kernel_rfl) ?_))
    exact AVle.tup2 (fil_le h rfl rfl rfl rfl (fun _ _ => rfl) (fun _ _ => rfl) rfl rfl rfl rfl) (.nilErr h)
  · trivial
def sRNew : Sp
  | [.int .i64 a, .int .i64 b] => .ok (.tup [.agg (filL (bchk a b) a b a.toNat b.toNat (fun _ => 0) (fun _ => 0) 0 0 0 0), .int .i64 (bchk a b)])
  | _ => .no
theorem ok27 : EntOK Try.prog TE 27 sRNew := by
  refine ⟨callable_of Try.func27 (by kernel_rfl), fun args => ?_⟩
  unfold sRNew
  split
  · rename_i a b
    refine fn_ofF tabsOK specOK_nil mixed Try.func27 (by kernel_rfl) ?_
    have no : ¬ ((1 ≤ a ∧ a ≤ 256) ∧ (1 ≤ b ∧ b ≤ 256)) → AVle TE (.tup [.agg [.int .i64 0, .int .i64 0, .nilS, .nilS, .int .i64 0, .int .i64 0, .int .i64 0, .int .i64 0], .int .i64 3]) (.tup [.agg (filL (bchk a b) a b a.toNat b.toNat (fun _ => 0) (fun _ => 0) 0 0 0 0), .int .i64 (bchk a b)]) := fun h => by
      have h : ¬ bchk a b = 0 := fun q => h (bchk0.1 q)
      exact AVle.tup2 (fil_zero h) (.int (bchk3 h).symm)
    refine Brn.mk (fun h => no (fun q => by have h := of_decide_eq_true h; omega)) (fun h1 => ?_)
    refine Brn.mk (fun h => no (fun q => by have h := of_decide_eq_true h; omega)) (fun h2 => ?_)
    refine Brn.mk (fun h => no (fun q => by have h := of_decide_eq_true h; omega)) (fun h3 => ?_)
    refine Brn.mk (fun h => no (fun q => by have h := of_decide_eq_true h; omega)) (fun h4 => ?_)
    have h1 := of_decide_eq_false h1
    have h2 := of_decide_eq_false h2
    have h3 := of_decide_eq_false h3
    have h4 := of_decide_eq_false h4
    have h : bchk a b = 0 := bchk0.2 ⟨⟨by omega, by omega⟩, by omega, by omega⟩
    refine Chk.mk ⟨by omega, by omega, by omega, by omega⟩ (Chk.mk ⟨by omega, by omega, by omega, by omega⟩ (Chk.mk (by kernel_rfl) ?_))
    exact AVle.tup2 (fil_le h rfl rfl rfl rfl (fun _ _ => rfl) (fun _ _ => rfl) rfl rfl rfl rfl) (.int h.symm)
  · trivial
/-- What a filter is fed, and what comes of it. -/
def uC (u : Int) : Int := clip u (-16777216) 16777216
def sm1 (n : Nat) (f : Nat → Int) (u : Int) : Int := sumW (shf f n (uC u)) n
def vel (n m : Nat) (f g : Nat → Int) (u : Int) : Int := sumW (shf g m (sm1 n f u)) m
def pos (p v : Int) : Int := clip (wr (clip p (-1152921504606846976) 1152921504606846976 + v)) (-1152921504606846976) 1152921504606846976
def dif (x y : Int) : Int := wr (x - clip y (-1125899906842624) 1125899906842624)
def pushL (a b : Int) (n m : Nat) (f g : Nat → Int) (p q r u : Int) : List AV :=
  filL (fchk a b n m f g) a b n m (shf f n (uC u)) (shf g m (sm1 n f u)) (pos p (vel n m f g u)) (vel n m f g u) (dif (vel n m f g u) q) (dif (dif (vel n m f g u) q) r)
def sPush : Sp
  | [.agg [.int .i64 a, .int .i64 b, .sl s n f, .sl s' m g, .int .i64 p, .int .i64 q, .int .i64 r, .int .i64 _], .int .i64 u] => .pre (FOK s n f s' m g) (.tup [.agg (pushL a b n m (vI f) (vI g) p q r u), .err (fchk a b n m (vI f) (vI g))])
  | _ => .no
set_option maxHeartbeats 2000000 in
theorem ok28 : EntOK Try.prog TE 28 sPush := by
  refine ⟨callable_of Try.func28 (by kernel_rfl), fun args => ?_⟩
  unfold sPush
  split
  · rename_i a b s n f s' m g p q r t u
    rintro ⟨hf, hg, hn, hm⟩
    refine FnOK.args (m := [.agg [.int .i64 a, .int .i64 b, .sl 1 n fun i _ => .int .i64 (vI f i), .sl 1 m fun i _ => .int .i64 (vI g i), .int .i64 p, .int .i64 q, .int .i64 r, .int .i64 t], .int .i64 u]) ?_ ⟨.aggL ⟨.refl, .refl, hf.le1 rfl, hg.le1 rfl, .refl, .refl, .refl, .refl, trivial⟩, fun _ _ _ h => h, trivial⟩
    generalize vI f = x
    generalize vI g = y
    refine fn_ofF tabsOK (specOK_cons ok35 (specOK_cons ok45 (specOK_cons ok46 specOK_nil))) mixed Try.func28 (by kernel_rfl) ?_
    refine Chk.mk ⟨isI_mk, isI_mk, hn, hm⟩ ?_
    refine Brn.mk (fun h => ?_) (fun h => ?_)
    · have h : ¬ fchk a b n m x y = 0 := ndT h
      exact AVle.tup2 (fil_zero h) (.err rfl)
    have h : fchk a b n m x y = 0 := ndF h
    obtain ⟨⟨hb1, hb2⟩, hl1, hl2, _⟩ := fchk_zero h
    refine Chk.mk ⟨isI_mk, by omega, hn⟩ (Chk.mk (by kernel_rfl) ?_)
    refine Chk.mk ⟨isI_mk, by omega, hm⟩ ?_
    refine Chk.mk (by kernel_rfl) (Chk.mk (by kernel_rfl) (Chk.mk (by kernel_rfl) ?_))
    exact AVle.tup2 (fil_le h rfl rfl rfl rfl (fun _ _ => rfl) (fun _ _ => rfl) rfl rfl rfl rfl) (.nilErr h)
  · trivial
end
end Go.Proofs.Ytpndkmppncpkgaa.Img
