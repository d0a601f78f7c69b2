/- Chapter 48: a tick. Conditions: none. -/
import Derived.Test.YtiodcjbpfhfmbaaFlt5
namespace Go.Proofs.Ytiodcjbpfhfmbaa.Img
open Go Go.Proofs.Ytiodcjbpfhfmbaa.AI Go.Proofs
noncomputable section
set_option maxRecDepth 100000
/-- The log while a tick is worked off: its length and its entries. -/
def lgN (k : Nat) (c : Nat → Bool) : Nat → Nat
  | 0 => k
  | i + 1 => if c i = true then lgN k c i + 1 else lgN k c i
def lgA (k : Nat) (c : Nat → Bool) (a : Nat → Int) (v : Nat → Int) : Nat → Nat → Int
  | 0 => a
  | i + 1 => if c i = true then (fun j => if j < lgN k c i then lgA k c a v i j else v i) else lgA k c a v i
theorem lgN_le (k : Nat) (c : Nat → Bool) : ∀ i, lgN k c i ≤ k + i
  | 0 => Nat.le_refl _
  | i + 1 => by have := lgN_le k c i; unfold lgN; split <;> omega
def hldF (now : Nat → Bool) (ack : Bool) (h l : Nat → Bool) (j : Nat) : Bool := if now j = true then (h j || l j) else if ack = true then false else h j
def mixF (f g : Nat → Bool) (i j : Nat) : Bool := if j < i then f j else g j
def rea (w re : Int) (still : Bool) : Int :=
  let o := if still = true ∧ (w = 2 ∨ w = 3) then 4 else w
  if 2 ≤ w then max o re else o
def nTk (tk : Int) : Int := min (tk + 1) 1099511627776
/-- The log's last entries. -/
def lgC (n : Nat) : Nat := if 16 < n then 16 else n
def lgD (n : Nat) (a : Nat → Int) (j : Nat) : Int := if 16 < n then a (n - 16 + j) else a j
def ccF (now x : Nat → Bool) (i : Nat) : Bool := now i && !x i
structure InOK (nw : AV) : Prop where
  p : BAV nw
  n : slN nw ≤ 1000
def stpE (n : Nat) (r : Nat → Int) (na nh : Nat) (re tk : Int) (k nn : Nat) : Int := if tchk n r na nh re tk k = 0 then (if nn = n then 0 else 11) else tchk n r na nh re tk k
def stpL (n : Nat) (r : Nat → Int) (l : Nat → Bool) (na nh : Nat) (x y : Nat → Bool) (re tk : Int) (k : Nat) (ea eb : Nat → Int) (nn : Nat) (now : Nat → Bool) (ack still : Bool) : List AV :=
  let e := stpE n r na nh re tk k nn
  let c := ccF now x
  stL (zN e n) (zN e n) now (hldF now ack y l) (zI e (rea (wst r (fun i => now i || hldF now ack y l i) n) re still)) (zI e (nTk tk)) (zN e (lgC (lgN k c n))) (lgD (lgN k c n) (lgA k c ea (fun i => i) n)) (lgD (lgN k c n) (lgA k c eb (fun _ => nTk tk) n))
def sStep : Sp
  | [.sl s n f, .agg [a, h, .int .i64 re, .int .i64 tk, lg], .agg [nw, .bit p, .bit q]] => .pre (RulOK s n f ∧ StOK a h lg ∧ InOK nw)
      (.tup [.agg (stpL n (vI f) (vL f) (slN a) (slN h) (vB (slF a)) (vB (slF h)) re tk (slN lg) (vI (slF lg)) (vJ (slF lg)) (slN nw) (vB (slF nw)) p q), .err (stpE n (vI f) (slN a) (slN h) re tk (slN lg) (slN nw))])
  | _ => .no
theorem mix_ne {f g : Nat → Bool} {i k : Nat} (h : k ≠ i) : mixF f g i k = mixF f g (i + 1) k := by
  unfold mixF
  by_cases e : k < i
  · rw [if_pos e, if_pos (by omega)]
  · rw [if_neg e, if_neg (by omega)]
theorem mix_at {f g : Nat → Bool} {i : Nat} : mixF f g (i + 1) i = f i := if_pos (by omega)
theorem mix_i {f g : Nat → Bool} {i : Nat} : mixF f g i i = g i := if_neg (by omega)
theorem mix_all {f g : Nat → Bool} {i : Nat} (h : f i = g i) : mixF f g i = mixF f g (i + 1) := funext fun k => by
  by_cases e : k = i
  · rw [e, mix_i, mix_at, h]
  · exact mix_ne e
theorem app2 {n : Nat} {A B A' B' : Nat → Int} {G : Nat → Nat → AV} (h1 : ∀ i, i < n → A i = A' i ∧ B i = B' i) (g0 : G 0 0 = .int .i64 (A' n)) (g1 : G 0 1 = .int .i64 (B' n)) {i j : Nat} (hi : i < n + 1) (hj : j < 2) : evnF A' B' i j = appF n (evnF A B) G i j := by
  unfold appF
  cases hb : Nat.blt i n with
  | true =>
    have h : i < n := Nat.blt_eq ▸ hb
    obtain ⟨a, b⟩ := h1 i h
    match j, hj with
    | 0, _ => show AV.int .i64 (A' i) = .int .i64 (A i); rw [a]
    | 1, _ => show AV.int .i64 (B' i) = .int .i64 (B i); rw [b]
  | false =>
    have h : ¬ i < n := fun h => by rw [show Nat.blt i n = true from Nat.blt_eq ▸ h] at hb; cases hb
    have : i = n := by omega
    subst this
    show evnF A' B' i j = G (i - i) j
    rw [Nat.sub_self]
    match j, hj with
    | 0, _ => exact g0.symm
    | 1, _ => exact g1.symm
/-- The same, with the slices' values at hand. -/
def sWst2 : Sp
  | [.sl s n f, .agg [.sl sa na fa, .sl sh nh fh, .int .i64 _, .int .i64 _, .sl sg ng fg]] => .pre (WOK s n f (.sl sa na fa) (.sl sh nh fh) (.sl sg ng fg)) (.int .i64 (wst (vI f) (fun i => vB fa i || vB fh i) n))
  | _ => .no
theorem ok33b : EntOK Try.prog TE 33 sWst2 := by
  refine ⟨ok33.call, fun args => ?_⟩
  unfold sWst2
  split
  · rename_i s n f sa na fa sh nh fh re tk sg ng fg
    exact ok33.ok [.sl s n f, .agg [.sl sa na fa, .sl sh nh fh, .int .i64 re, .int .i64 tk, .sl sg ng fg]]
  · trivial
theorem stp_le {T : TypeId} {n : Nat} {r : Nat → Int} {l x y : Nat → Bool} {re tk : Int} {k : Nat} {ea eb : Nat → Int} {now : Nat → Bool} {ack still : Bool} {X Y L : Nat → Nat → AV} {re' tk' : Int} {k' : Nat}
    (e0 : stpE n r n n re tk k n = 0) (hx : ∀ i, i < n → X i 0 = .bit (now i)) (hy : ∀ i, i < n → Y i 0 = .bit (hldF now ack y l i)) (hre : re' = rea (wst r (fun i => now i || hldF now ack y l i) n) re still) (htk : tk' = nTk tk)
    (hk : k' = lgC (lgN k (ccF now x) n)) (hl : ∀ i j, i < k' → j < 2 → L i j = evnF (lgD (lgN k (ccF now x) n) (lgA k (ccF now x) ea (fun i => i) n)) (lgD (lgN k (ccF now x) n) (lgA k (ccF now x) eb (fun _ => nTk tk) n)) i j) :
    AVle2 T (.agg [.sl 1 n X, .sl 1 n Y, .int .i64 re', .int .i64 tk', .sl 2 k' L]) (.agg (stpL n r l n n x y re tk k ea eb n now ack still)) := by
  subst hre htk hk
  refine .aggL ⟨.sl (zN0 e0).symm fun i j hi hj => .of_eq ?_, .sl (zN0 e0).symm fun i j hi hj => .of_eq ?_, .of_eq (by rw [zI0 e0]), .of_eq (by rw [zI0 e0]), .sl (zN0 e0).symm fun i j hi hj => .of_eq (hl i j hi hj), trivial⟩
  · have : j = 0 := by omega
    subst this; exact hx i hi
  · have : j = 0 := by omega
    subst this; exact hy i hi
theorem rea_a {w re : Int} {st : Bool} (h : st = true) (h2 : w = 2 ∨ w = 3) : rea w re st = max 4 re := by
  unfold rea
  rw [if_pos (show st = true ∧ (w = 2 ∨ w = 3) from ⟨h, h2⟩)]
  exact if_pos (by omega)
theorem rea_b {w re : Int} {st : Bool} (h : ¬ (st = true ∧ (w = 2 ∨ w = 3))) (h2 : 2 ≤ w) : rea w re st = max w re := by
  unfold rea
  rw [if_neg h]
  exact if_pos h2
theorem rea_c {w re : Int} {st : Bool} (h2 : ¬ 2 ≤ w) : rea w re st = w := by
  unfold rea
  rw [if_neg (show ¬ (st = true ∧ (w = 2 ∨ w = 3)) from fun q => by omega)]
  exact if_neg h2
set_option maxHeartbeats 8000000 in
theorem ok18 : EntOK Try.prog TE 18 sStep := by
  refine ⟨callable_of Try.func18 (by kernel_rfl), fun args => ?_⟩
  unfold sStep
  split
  · rename_i s n f a h re tk lg nw ack still
    rintro ⟨⟨hf, hn⟩, H, ⟨hnw, hnn⟩⟩
    refine FnOK.args (m := [.sl 2 n (rulF (vI f) (vL f)), .agg (stL (slN a) (slN h) (vB (slF a)) (vB (slF h)) re tk (slN lg) (vI (slF lg)) (vJ (slF lg))), .agg [.sl 1 (slN nw) (bitF (vB (slF nw))), .bit ack, .bit still]]) ?_ ⟨le2_sl hf.le1, H.le, .aggL ⟨hnw.le, .refl, .refl, trivial⟩, trivial⟩
    obtain ⟨_, _, _, an, hn', ln⟩ := H
    generalize vI f = r at *
    generalize vL f = l at *
    generalize slN a = na at *
    generalize slN h = nh at *
    generalize slN lg = k at *
    generalize slN nw = nn at *
    generalize vB (slF a) = x at *
    generalize vB (slF h) = y at *
    generalize vB (slF nw) = now at *
    generalize vI (slF lg) = ea at *
    generalize vJ (slF lg) = eb at *
    refine fn_ofF tabsOK (specOK_cons ok30 (specOK_cons ok31 (specOK_cons ok32 (specOK_cons ok33b specOK_nil)))) mixed Try.func18 (by kernel_rfl) ?_
    have bad : ∀ e : Int, ¬ e = 0 → e = stpE n r na nh re tk k nn → ∀ v : AV, v = .err e → AVle TE (.tup [.agg [.nilS, .nilS, .int .i64 0, .int .i64 0, .nilS], v]) (.tup [.agg (stpL n r l na nh x y re tk k ea eb nn now ack still), .err (stpE n r na nh re tk k nn)]) := fun e he hs v hv => by
      subst hv
      have h0 : ¬ stpE n r na nh re tk k nn = 0 := by rw [← hs]; exact he
      exact AVle.tup2 (st_zero (zN1 h0) (zN1 h0) (zI1 h0) (zI1 h0) (zN1 h0)) (.err hs)
    refine Chk.mk ⟨⟨isR_mk, hn⟩, stOK_mk an hn' ln⟩ ?_
    refine Brn.mk (fun h1 => ?_) (fun h1 => ?_)
    · have h1 : ¬ tchk n r na nh re tk k = 0 := ndT h1
      exact bad _ h1 (if_neg h1).symm _ rfl
    have h1 : tchk n r na nh re tk k = 0 := ndF h1
    obtain ⟨hr, hs⟩ := tchk_ok h1
    obtain ⟨n1, n32, rb⟩ := rchk_zero hr
    obtain ⟨ena, enh, re1, tk1, k16⟩ := schk_zero hs
    have ena := ena.symm
    have enh := enh.symm
    subst ena
    subst enh
    refine Brn.mk (fun h2 => Chk.mk (by decide) (bad 11 (by decide) ?_ _ rfl)) (fun h2 => ?_)
    · rw [stpE, if_pos h1, if_neg (fun q => ndT h2 (by rw [q]))]
    have h2 : n = nn := (Int.ofNat.inj (ndF h2)).symm
    subst h2
    have e0 : stpE n r n n re tk k n = 0 := by rw [stpE, if_pos h1, if_pos rfl]
    have w1 : min (wr (tk + 1)) 1099511627776 = nTk tk := by rw [wr_id (by omega) (by omega)]; rfl
    refine Chk.mk ⟨isB_mk, n1, hn⟩ (Chk.mk ⟨isB_mk, n1, hn⟩ (Chk.mk ⟨isE_mk, ln⟩ (Chk.mk (by kernel_rfl) ?_)))
    have kb : ∀ i, i ≤ n → lgN k (ccF now x) i ≤ 1000 := fun i hi => by have := lgN_le k (ccF now x) i; omega
    refine LoopOK.mk ⟨{ i : Nat // i ≤ n }, fun i => mkSt [(0, .sl 2 n (rulF r l)), (4, .loc 4 0), (5, .loc 5 0), (6, .loc 6 0), (9, .loc 9 0), (44, .sl 1 n (bitF now)), (45, .int .i64 n), (46, .int .i64 i.1)]
      [(4, ⟨28, 5, 1, fun _ j => nth (stL n n x y re tk k ea eb) j, 0, true⟩), (5, ⟨39, 3, 1, fun _ j => nth [.sl 1 n (bitF now), .bit ack, .bit still] j, 0, true⟩),
       (6, ⟨28, 5, 1, fun _ j => nth [.nilS, .nilS, .int .i64 0, .int .i64 0, .nilS] j, 0, true⟩),
       (9, ⟨28, 5, 1, fun _ j => nth [.own 201 n, .own 202 n, .int .i64 0, .int .i64 (nTk tk), .own 203 (lgN k (ccF now x) i.1)] j, 0, true⟩),
       (201, ⟨4, 1, n, bitF now, 0, false⟩), (202, ⟨4, 1, n, bitF (mixF (hldF now ack y l) y i.1), 0, false⟩),
       (203, ⟨57, 2, lgN k (ccF now x) i.1, evnF (lgA k (ccF now x) ea (fun i => i) i.1) (lgA k (ccF now x) eb (fun _ => nTk tk) i.1), 1, false⟩)], fun i => n - i.1, ⟨⟨0, by omega⟩, ?_⟩, ?_⟩
    · refine wk_of [(4, some 4), (5, some 5), (6, some 6), (9, some 9), (201, some 31), (202, some 34), (203, some 41)] rfl ⟨⟨rfl, rfl⟩, rfl, rfl, rfl, rfl, ⟨rfl, rfl⟩, ⟨rfl, rfl⟩, ⟨rfl, rfl⟩, trivial⟩
        ⟨RowLe.fin rfl rfl rfl rfl rfl ?_, RowLe.fin rfl rfl rfl rfl rfl ?_, RowLe.fin rfl rfl rfl rfl rfl ?_, RowLe.fin rfl rfl rfl rfl rfl ⟨trivial, ⟨⟨⟨⟨⟨trivial, ?_⟩, ?_⟩, ?_⟩, ?_⟩, ?_⟩⟩, ⟨rfl, rfl, rfl, rfl, rfl, fun _ _ _ _ => Or.inr rfl⟩, ⟨rfl, rfl, rfl, rfl, rfl, fun i j _ _ => Or.inr ?_⟩, ⟨rfl, rfl, rfl, rfl, rfl, fun _ _ _ _ => Or.inr rfl⟩, trivial⟩
      · (repeat' first | exact trivial | exact ⟨by kernel_rfl, by kernel_rfl⟩ | exact Or.inr (by kernel_rfl) | (show _ = _; kernel_rfl) | refine ⟨?_, ?_⟩)
      · (repeat' first | exact trivial | exact ⟨by kernel_rfl, by kernel_rfl⟩ | exact Or.inr (by kernel_rfl) | (show _ = _; kernel_rfl) | refine ⟨?_, ?_⟩)
      · (repeat' first | exact trivial | exact ⟨by kernel_rfl, by kernel_rfl⟩ | exact Or.inr (by kernel_rfl) | (show _ = _; kernel_rfl) | refine ⟨?_, ?_⟩)
      · exact rfl
      · exact rfl
      · exact renI rfl
      · exact renI w1
      · exact rfl
      · show AV.bit (mixF (hldF now ack y l) y 0 i) = .bit (y i)
        rw [mixF, if_neg (by omega)]
    rintro ⟨i, hi⟩
    have hi : i ≤ n := hi
    refine Brn.mk (fun h3 => ?_) (fun h3 => ?_)
    · have h3 : (i : Int) < n := of_decide_eq_true h3
      refine Chk.mk ⟨Int.natCast_nonneg i, h3⟩ ?_
      refine Brn.mk (fun h4 => ?_) (fun h4 => ?_)
      · have h4 : now i = true := h4
        have hF : hldF now ack y l i = (y i || l i) := if_pos h4
        refine Chk.mk ⟨Int.natCast_nonneg i, h3⟩ ?_
        refine Brn.mk (fun h5 => ?_) (fun h5 => ?_)
        · have h5 : mixF (hldF now ack y l) y i i = true := h5
          rw [mix_i] at h5
          refine Chk.mk ⟨Int.natCast_nonneg i, h3⟩ (Chk.mk (by kernel_rfl) ?_)
          refine Chk.mk ⟨Int.natCast_nonneg i, h3⟩ ?_
          refine Brn.mk (fun h6 => ?_) (fun h6 => ?_)
          · have hc : ccF now x i = true := by rw [ccF, h4, show (!x i) = true from h6]; rfl
            have := kb i (by omega)
            refine Chk.mk ⟨(show (lgN k (ccF now x) i + 1) * 16 ≤ 140737488355328 by omega), (show lgN k (ccF now x) i + 1 ≤ 9223372036854775807 by omega)⟩ ?_
            refine ⟨⟨i + 1, by omega⟩, by show n - (i + 1) < n - i; omega, ?_⟩
            have eN : lgN k (ccF now x) (i + 1) = lgN k (ccF now x) i + 1 := if_pos hc
            have eA : lgA k (ccF now x) ea (fun i => i) (i + 1) = fun j => if j < lgN k (ccF now x) i then lgA k (ccF now x) ea (fun i => i) i j else i := if_pos hc
            have eB : lgA k (ccF now x) eb (fun _ => nTk tk) (i + 1) = fun j => if j < lgN k (ccF now x) i then lgA k (ccF now x) eb (fun _ => nTk tk) i j else nTk tk := if_pos hc
            refine wk_of [(4, some 4), (5, some 5), (6, some 6), (9, some 9), (201, some 201), (202, some 202), (203, some 82)] rfl ⟨⟨rfl, rfl⟩, rfl, rfl, rfl, rfl, ⟨rfl, rfl⟩, ⟨rfl, rfl⟩, ⟨wrS (i := i) (by omega), rfl⟩, trivial⟩
              ⟨RowLe.fin rfl rfl rfl rfl rfl ?_, RowLe.fin rfl rfl rfl rfl rfl ?_, RowLe.fin rfl rfl rfl rfl rfl ?_, RowLe.fin rfl rfl rfl rfl rfl ⟨trivial, ⟨⟨⟨⟨⟨trivial, ?_⟩, ?_⟩, ?_⟩, ?_⟩, ?_⟩⟩, ⟨rfl, rfl, rfl, rfl, rfl, fun _ _ _ _ => Or.inr rfl⟩, RowLe.upd (i := i) (fun k => .bit (mixF (hldF now ack y l) y (i + 1) k)) rfl rfl rfl (fun k _ hk => congrArg AV.bit (mix_ne hk)) (congrArg AV.bit ?_), ⟨rfl, rfl, eN, rfl, rfl, fun a b ha hb => Or.inr ?_⟩, trivial⟩
            · (repeat' first | exact trivial | exact ⟨by kernel_rfl, by kernel_rfl⟩ | exact Or.inr (by kernel_rfl) | (show _ = _; kernel_rfl) | refine ⟨?_, ?_⟩)
            · (repeat' first | exact trivial | exact ⟨by kernel_rfl, by kernel_rfl⟩ | exact Or.inr (by kernel_rfl) | (show _ = _; kernel_rfl) | refine ⟨?_, ?_⟩)
            · (repeat' first | exact trivial | exact ⟨by kernel_rfl, by kernel_rfl⟩ | exact Or.inr (by kernel_rfl) | (show _ = _; kernel_rfl) | refine ⟨?_, ?_⟩)
            · exact rfl
            · exact rfl
            · exact renI rfl
            · exact renI rfl
            · exact congrArg (AV.own 82) eN.symm
            · rw [mix_at, hF, h5]; rfl
            · show evnF (lgA k (ccF now x) ea (fun i => i) (i + 1)) (lgA k (ccF now x) eb (fun _ => nTk tk) (i + 1)) a b = _
              rw [eA, eB]
              dsimp only
              refine app2 (n := lgN k (ccF now x) i) (A := lgA k (ccF now x) ea (fun i => i) i) (B := lgA k (ccF now x) eb (fun _ => nTk tk) i) (A' := fun j => if j < lgN k (ccF now x) i then lgA k (ccF now x) ea (fun i => i) i j else (i : Int)) (B' := fun j => if j < lgN k (ccF now x) i then lgA k (ccF now x) eb (fun _ => nTk tk) i j else nTk tk) (fun j hj => ⟨(if_pos hj).symm, (if_pos hj).symm⟩) ?_ ?_ ha hb
              · exact congrArg (AV.int .i64) (if_neg (Nat.lt_irrefl (lgN k (ccF now x) i))).symm
              · exact congrArg (AV.int .i64) (if_neg (Nat.lt_irrefl (lgN k (ccF now x) i))).symm
          · have hc : ccF now x i = false := by rw [ccF, h4, show (!x i) = false from h6]; rfl
            refine ⟨⟨i + 1, by omega⟩, by show n - (i + 1) < n - i; omega, ?_⟩
            have eN : lgN k (ccF now x) (i + 1) = lgN k (ccF now x) i := if_neg (by rw [hc]; decide)
            have eA : lgA k (ccF now x) ea (fun i => i) (i + 1) = lgA k (ccF now x) ea (fun i => i) i := if_neg (by rw [hc]; decide)
            have eB : lgA k (ccF now x) eb (fun _ => nTk tk) (i + 1) = lgA k (ccF now x) eb (fun _ => nTk tk) i := if_neg (by rw [hc]; decide)
            refine wk_of [(4, some 4), (5, some 5), (6, some 6), (9, some 9), (201, some 201), (202, some 202), (203, some 203)] rfl ⟨⟨rfl, rfl⟩, rfl, rfl, rfl, rfl, ⟨rfl, rfl⟩, ⟨rfl, rfl⟩, ⟨wrS (i := i) (by omega), rfl⟩, trivial⟩
              ⟨RowLe.fin rfl rfl rfl rfl rfl ?_, RowLe.fin rfl rfl rfl rfl rfl ?_, RowLe.fin rfl rfl rfl rfl rfl ?_, RowLe.fin rfl rfl rfl rfl rfl ⟨trivial, ⟨⟨⟨⟨⟨trivial, ?_⟩, ?_⟩, ?_⟩, ?_⟩, ?_⟩⟩, ⟨rfl, rfl, rfl, rfl, rfl, fun _ _ _ _ => Or.inr rfl⟩, RowLe.upd (i := i) (fun k => .bit (mixF (hldF now ack y l) y (i + 1) k)) rfl rfl rfl (fun k _ hk => congrArg AV.bit (mix_ne hk)) (congrArg AV.bit ?_), ⟨rfl, rfl, eN, rfl, rfl, fun a b ha hb => Or.inr ?_⟩, trivial⟩
            · (repeat' first | exact trivial | exact ⟨by kernel_rfl, by kernel_rfl⟩ | exact Or.inr (by kernel_rfl) | (show _ = _; kernel_rfl) | refine ⟨?_, ?_⟩)
            · (repeat' first | exact trivial | exact ⟨by kernel_rfl, by kernel_rfl⟩ | exact Or.inr (by kernel_rfl) | (show _ = _; kernel_rfl) | refine ⟨?_, ?_⟩)
            · (repeat' first | exact trivial | exact ⟨by kernel_rfl, by kernel_rfl⟩ | exact Or.inr (by kernel_rfl) | (show _ = _; kernel_rfl) | refine ⟨?_, ?_⟩)
            · exact rfl
            · exact rfl
            · exact renI rfl
            · exact renI rfl
            · exact congrArg (AV.own 203) eN.symm
            · rw [mix_at, hF, h5]; rfl
            · show evnF (lgA k (ccF now x) ea (fun i => i) (i + 1)) (lgA k (ccF now x) eb (fun _ => nTk tk) (i + 1)) a b = _
              rw [eA, eB]
        · have h5 : mixF (hldF now ack y l) y i i = false := h5
          rw [mix_i] at h5
          refine Chk.mk ⟨Int.natCast_nonneg i, h3⟩ (Chk.mk ⟨Int.natCast_nonneg i, h3⟩ (Chk.mk (by kernel_rfl) ?_))
          refine Chk.mk ⟨Int.natCast_nonneg i, h3⟩ ?_
          refine Brn.mk (fun h6 => ?_) (fun h6 => ?_)
          · have hc : ccF now x i = true := by rw [ccF, h4, show (!x i) = true from h6]; rfl
            have := kb i (by omega)
            refine Chk.mk ⟨(show (lgN k (ccF now x) i + 1) * 16 ≤ 140737488355328 by omega), (show lgN k (ccF now x) i + 1 ≤ 9223372036854775807 by omega)⟩ ?_
            refine ⟨⟨i + 1, by omega⟩, by show n - (i + 1) < n - i; omega, ?_⟩
            have eN : lgN k (ccF now x) (i + 1) = lgN k (ccF now x) i + 1 := if_pos hc
            have eA : lgA k (ccF now x) ea (fun i => i) (i + 1) = fun j => if j < lgN k (ccF now x) i then lgA k (ccF now x) ea (fun i => i) i j else i := if_pos hc
            have eB : lgA k (ccF now x) eb (fun _ => nTk tk) (i + 1) = fun j => if j < lgN k (ccF now x) i then lgA k (ccF now x) eb (fun _ => nTk tk) i j else nTk tk := if_pos hc
            refine wk_of [(4, some 4), (5, some 5), (6, some 6), (9, some 9), (201, some 201), (202, some 202), (203, some 82)] rfl ⟨⟨rfl, rfl⟩, rfl, rfl, rfl, rfl, ⟨rfl, rfl⟩, ⟨rfl, rfl⟩, ⟨wrS (i := i) (by omega), rfl⟩, trivial⟩
              ⟨RowLe.fin rfl rfl rfl rfl rfl ?_, RowLe.fin rfl rfl rfl rfl rfl ?_, RowLe.fin rfl rfl rfl rfl rfl ?_, RowLe.fin rfl rfl rfl rfl rfl ⟨trivial, ⟨⟨⟨⟨⟨trivial, ?_⟩, ?_⟩, ?_⟩, ?_⟩, ?_⟩⟩, ⟨rfl, rfl, rfl, rfl, rfl, fun _ _ _ _ => Or.inr rfl⟩, RowLe.upd (i := i) (fun k => .bit (mixF (hldF now ack y l) y (i + 1) k)) rfl rfl rfl (fun k _ hk => congrArg AV.bit (mix_ne hk)) (congrArg AV.bit ?_), ⟨rfl, rfl, eN, rfl, rfl, fun a b ha hb => Or.inr ?_⟩, trivial⟩
            · (repeat' first | exact trivial | exact ⟨by kernel_rfl, by kernel_rfl⟩ | exact Or.inr (by kernel_rfl) | (show _ = _; kernel_rfl) | refine ⟨?_, ?_⟩)
            · (repeat' first | exact trivial | exact ⟨by kernel_rfl, by kernel_rfl⟩ | exact Or.inr (by kernel_rfl) | (show _ = _; kernel_rfl) | refine ⟨?_, ?_⟩)
            · (repeat' first | exact trivial | exact ⟨by kernel_rfl, by kernel_rfl⟩ | exact Or.inr (by kernel_rfl) | (show _ = _; kernel_rfl) | refine ⟨?_, ?_⟩)
            · exact rfl
            · exact rfl
            · exact renI rfl
            · exact renI rfl
            · exact congrArg (AV.own 82) eN.symm
            · rw [mix_at, hF, h5]; rfl
            · show evnF (lgA k (ccF now x) ea (fun i => i) (i + 1)) (lgA k (ccF now x) eb (fun _ => nTk tk) (i + 1)) a b = _
              rw [eA, eB]
              dsimp only
              refine app2 (n := lgN k (ccF now x) i) (A := lgA k (ccF now x) ea (fun i => i) i) (B := lgA k (ccF now x) eb (fun _ => nTk tk) i) (A' := fun j => if j < lgN k (ccF now x) i then lgA k (ccF now x) ea (fun i => i) i j else (i : Int)) (B' := fun j => if j < lgN k (ccF now x) i then lgA k (ccF now x) eb (fun _ => nTk tk) i j else nTk tk) (fun j hj => ⟨(if_pos hj).symm, (if_pos hj).symm⟩) ?_ ?_ ha hb
              · exact congrArg (AV.int .i64) (if_neg (Nat.lt_irrefl (lgN k (ccF now x) i))).symm
              · exact congrArg (AV.int .i64) (if_neg (Nat.lt_irrefl (lgN k (ccF now x) i))).symm
          · have hc : ccF now x i = false := by rw [ccF, h4, show (!x i) = false from h6]; rfl
            refine ⟨⟨i + 1, by omega⟩, by show n - (i + 1) < n - i; omega, ?_⟩
            have eN : lgN k (ccF now x) (i + 1) = lgN k (ccF now x) i := if_neg (by rw [hc]; decide)
            have eA : lgA k (ccF now x) ea (fun i => i) (i + 1) = lgA k (ccF now x) ea (fun i => i) i := if_neg (by rw [hc]; decide)
            have eB : lgA k (ccF now x) eb (fun _ => nTk tk) (i + 1) = lgA k (ccF now x) eb (fun _ => nTk tk) i := if_neg (by rw [hc]; decide)
            refine wk_of [(4, some 4), (5, some 5), (6, some 6), (9, some 9), (201, some 201), (202, some 202), (203, some 203)] rfl ⟨⟨rfl, rfl⟩, rfl, rfl, rfl, rfl, ⟨rfl, rfl⟩, ⟨rfl, rfl⟩, ⟨wrS (i := i) (by omega), rfl⟩, trivial⟩
              ⟨RowLe.fin rfl rfl rfl rfl rfl ?_, RowLe.fin rfl rfl rfl rfl rfl ?_, RowLe.fin rfl rfl rfl rfl rfl ?_, RowLe.fin rfl rfl rfl rfl rfl ⟨trivial, ⟨⟨⟨⟨⟨trivial, ?_⟩, ?_⟩, ?_⟩, ?_⟩, ?_⟩⟩, ⟨rfl, rfl, rfl, rfl, rfl, fun _ _ _ _ => Or.inr rfl⟩, RowLe.upd (i := i) (fun k => .bit (mixF (hldF now ack y l) y (i + 1) k)) rfl rfl rfl (fun k _ hk => congrArg AV.bit (mix_ne hk)) (congrArg AV.bit ?_), ⟨rfl, rfl, eN, rfl, rfl, fun a b ha hb => Or.inr ?_⟩, trivial⟩
            · (repeat' first | exact trivial | exact ⟨by kernel_rfl, by kernel_rfl⟩ | exact Or.inr (by kernel_rfl) | (show _ = _; kernel_rfl) | refine ⟨?_, ?_⟩)
            · (repeat' first | exact trivial | exact ⟨by kernel_rfl, by kernel_rfl⟩ | exact Or.inr (by kernel_rfl) | (show _ = _; kernel_rfl) | refine ⟨?_, ?_⟩)
            · (repeat' first | exact trivial | exact ⟨by kernel_rfl, by kernel_rfl⟩ | exact Or.inr (by kernel_rfl) | (show _ = _; kernel_rfl) | refine ⟨?_, ?_⟩)
            · exact rfl
            · exact rfl
            · exact renI rfl
            · exact renI rfl
            · exact congrArg (AV.own 203) eN.symm
            · rw [mix_at, hF, h5]; rfl
            · show evnF (lgA k (ccF now x) ea (fun i => i) (i + 1)) (lgA k (ccF now x) eb (fun _ => nTk tk) (i + 1)) a b = _
              rw [eA, eB]
      · have h4 : now i = false := h4
        have hc : ccF now x i = false := by rw [ccF, h4]; rfl
        refine Brn.mk (fun h5 => ?_) (fun h5 => ?_)
        · have h5 : ack = true := h5
          have hF : hldF now ack y l i = false := by rw [hldF, if_neg (by rw [h4]; decide), if_pos h5]
          refine Chk.mk ⟨Int.natCast_nonneg i, h3⟩ ?_
          refine ⟨⟨i + 1, by omega⟩, by show n - (i + 1) < n - i; omega, ?_⟩
          have eN : lgN k (ccF now x) (i + 1) = lgN k (ccF now x) i := if_neg (by rw [hc]; decide)
          have eA : lgA k (ccF now x) ea (fun i => i) (i + 1) = lgA k (ccF now x) ea (fun i => i) i := if_neg (by rw [hc]; decide)
          have eB : lgA k (ccF now x) eb (fun _ => nTk tk) (i + 1) = lgA k (ccF now x) eb (fun _ => nTk tk) i := if_neg (by rw [hc]; decide)
          refine wk_of [(4, some 4), (5, some 5), (6, some 6), (9, some 9), (201, some 201), (202, some 202), (203, some 203)] rfl ⟨⟨rfl, rfl⟩, rfl, rfl, rfl, rfl, ⟨rfl, rfl⟩, ⟨rfl, rfl⟩, ⟨wrS (i := i) (by omega), rfl⟩, trivial⟩
            ⟨RowLe.fin rfl rfl rfl rfl rfl ?_, RowLe.fin rfl rfl rfl rfl rfl ?_, RowLe.fin rfl rfl rfl rfl rfl ?_, RowLe.fin rfl rfl rfl rfl rfl ⟨trivial, ⟨⟨⟨⟨⟨trivial, ?_⟩, ?_⟩, ?_⟩, ?_⟩, ?_⟩⟩, ⟨rfl, rfl, rfl, rfl, rfl, fun _ _ _ _ => Or.inr rfl⟩, RowLe.upd (i := i) (fun k => .bit (mixF (hldF now ack y l) y (i + 1) k)) rfl rfl rfl (fun k _ hk => congrArg AV.bit (mix_ne hk)) (congrArg AV.bit ?_), ⟨rfl, rfl, eN, rfl, rfl, fun a b ha hb => Or.inr ?_⟩, trivial⟩
          · (repeat' first | exact trivial | exact ⟨by kernel_rfl, by kernel_rfl⟩ | exact Or.inr (by kernel_rfl) | (show _ = _; kernel_rfl) | refine ⟨?_, ?_⟩)
          · (repeat' first | exact trivial | exact ⟨by kernel_rfl, by kernel_rfl⟩ | exact Or.inr (by kernel_rfl) | (show _ = _; kernel_rfl) | refine ⟨?_, ?_⟩)
          · (repeat' first | exact trivial | exact ⟨by kernel_rfl, by kernel_rfl⟩ | exact Or.inr (by kernel_rfl) | (show _ = _; kernel_rfl) | refine ⟨?_, ?_⟩)
          · exact rfl
          · exact rfl
          · exact renI rfl
          · exact renI rfl
          · exact congrArg (AV.own 203) eN.symm
          · rw [mix_at, hF]
          · show evnF (lgA k (ccF now x) ea (fun i => i) (i + 1)) (lgA k (ccF now x) eb (fun _ => nTk tk) (i + 1)) a b = _
            rw [eA, eB]
        · have h5 : ack = false := h5
          have hm : hldF now ack y l i = y i := by rw [hldF, if_neg (by rw [h4]; decide), if_neg (by rw [h5]; decide)]
          refine ⟨⟨i + 1, by omega⟩, by show n - (i + 1) < n - i; omega, ?_⟩
          have eN : lgN k (ccF now x) (i + 1) = lgN k (ccF now x) i := if_neg (by rw [hc]; decide)
          have eA : lgA k (ccF now x) ea (fun i => i) (i + 1) = lgA k (ccF now x) ea (fun i => i) i := if_neg (by rw [hc]; decide)
          have eB : lgA k (ccF now x) eb (fun _ => nTk tk) (i + 1) = lgA k (ccF now x) eb (fun _ => nTk tk) i := if_neg (by rw [hc]; decide)
          refine wk_of [(4, some 4), (5, some 5), (6, some 6), (9, some 9), (201, some 201), (202, some 202), (203, some 203)] rfl ⟨⟨rfl, rfl⟩, rfl, rfl, rfl, rfl, ⟨rfl, rfl⟩, ⟨rfl, rfl⟩, ⟨wrS (i := i) (by omega), rfl⟩, trivial⟩
            ⟨RowLe.fin rfl rfl rfl rfl rfl ?_, RowLe.fin rfl rfl rfl rfl rfl ?_, RowLe.fin rfl rfl rfl rfl rfl ?_, RowLe.fin rfl rfl rfl rfl rfl ⟨trivial, ⟨⟨⟨⟨⟨trivial, ?_⟩, ?_⟩, ?_⟩, ?_⟩, ?_⟩⟩, ⟨rfl, rfl, rfl, rfl, rfl, fun _ _ _ _ => Or.inr rfl⟩, ⟨rfl, rfl, rfl, rfl, rfl, fun a b _ _ => Or.inr (congrArg AV.bit (congrFun (mix_all hm).symm a))⟩, ⟨rfl, rfl, eN, rfl, rfl, fun a b ha hb => Or.inr ?_⟩, trivial⟩
          · (repeat' first | exact trivial | exact ⟨by kernel_rfl, by kernel_rfl⟩ | exact Or.inr (by kernel_rfl) | (show _ = _; kernel_rfl) | refine ⟨?_, ?_⟩)
          · (repeat' first | exact trivial | exact ⟨by kernel_rfl, by kernel_rfl⟩ | exact Or.inr (by kernel_rfl) | (show _ = _; kernel_rfl) | refine ⟨?_, ?_⟩)
          · (repeat' first | exact trivial | exact ⟨by kernel_rfl, by kernel_rfl⟩ | exact Or.inr (by kernel_rfl) | (show _ = _; kernel_rfl) | refine ⟨?_, ?_⟩)
          · exact rfl
          · exact rfl
          · exact renI rfl
          · exact renI rfl
          · exact congrArg (AV.own 203) eN.symm
          · show evnF (lgA k (ccF now x) ea (fun i => i) (i + 1)) (lgA k (ccF now x) eb (fun _ => nTk tk) (i + 1)) a b = _
            rw [eA, eB]
    · have h3 : ¬ (i : Int) < n := of_decide_eq_false h3
      have hin : i = n := by omega
      subst hin
      have W : wst r (fun j => now j || mixF (hldF now ack y l) y i j) i = wst r (fun i => now i || hldF now ack y l i) i := wst_congr fun j hj => by
        show (now j || mixF (hldF now ack y l) y i j) = (now j || hldF now ack y l j)
        rw [mixF, if_pos hj]
      have my : ∀ j, j < i → bitF (mixF (hldF now ack y l) y i) j 0 = .bit (hldF now ack y l j) := fun j hj => by
        show AV.bit (mixF (hldF now ack y l) y i j) = _
        rw [mixF, if_pos hj]
      have hN := kb i (Nat.le_refl _)
      have ew : wr ((lgN k (ccF now x) i : Int) - 16) = (lgN k (ccF now x) i : Int) - 16 := wr_id (by omega) (by omega)
      refine Brn.mk (fun h5 => ?_) (fun h5 => ?_)
      · have h5 : (0 : Int) < wr ((lgN k (ccF now x) i : Int) - 16) := of_decide_eq_true h5
        rw [ew] at h5
        have hk : lgN k (ccF now x) i - (wr ((lgN k (ccF now x) i : Int) - 16)).toNat = 16 := by rw [ew]; omega
        have hk1 : lgN k (ccF now x) i - (wr ((lgN k (ccF now x) i : Int) - 16)).toNat ≤ 1000 := by omega
        refine Chk.mk ⟨(show 0 ≤ wr ((lgN k (ccF now x) i : Int) - 16) by omega), (show wr ((lgN k (ccF now x) i : Int) - 16) ≤ (lgN k (ccF now x) i : Int) by omega)⟩ ?_
        refine Chk.mk ⟨⟨rfl, fun _ _ => ⟨rfl, rfl⟩⟩, hk1⟩ ?_
        have hl6 : ∀ a b, a < lgN k (ccF now x) i - (wr ((lgN k (ccF now x) i : Int) - 16)).toNat → b < 2 → evnF (fun j => lgA k (ccF now x) ea (fun i => i) i ((wr ((lgN k (ccF now x) i : Int) - 16)).toNat + j)) (fun j => lgA k (ccF now x) eb (fun _ => nTk tk) i ((wr ((lgN k (ccF now x) i : Int) - 16)).toNat + j)) a b =
            evnF (lgD (lgN k (ccF now x) i) (lgA k (ccF now x) ea (fun i => i) i)) (lgD (lgN k (ccF now x) i) (lgA k (ccF now x) eb (fun _ => nTk tk) i)) a b := fun a b _ _ => by
          have e : (wr ((lgN k (ccF now x) i : Int) - 16)).toNat = lgN k (ccF now x) i - 16 := by rw [ew]; omega
          rw [e]
          unfold evnF lgD
          rw [if_pos (by omega), if_pos (by omega)]
        refine Chk.mk ⟨⟨isR_mk, hn⟩, ⟨isB_mk, isB_mk, isE_mk, hn, hn, hk1⟩, Nat.le_refl _, Nat.le_refl _⟩ ?_
        refine Brn.mk (fun g1 => ?_) (fun g1 => ?_)
        · have g1 : still = true := g1
          refine Brn.mk (fun g2 => ?_) (fun g2 => ?_)
          · have g2 : wst r (fun j => now j || mixF (hldF now ack y l) y i j) i = 2 := of_decide_eq_true g2
            rw [W] at g2
            refine Brn.mk (fun _ => AVle.tup2 (stp_le e0 (fun _ _ => rfl) my ((rea_a g1 (.inl g2)).symm) rfl (hk.trans (if_pos (by omega)).symm) hl6) (.nilErr e0)) (fun g3 => absurd (show 2 ≤ wst r (fun j => now j || mixF (hldF now ack y l) y i j) i by rw [W]; omega) (of_decide_eq_false g3))
          · have g2 : ¬ wst r (fun j => now j || mixF (hldF now ack y l) y i j) i = 2 := of_decide_eq_false g2
            rw [W] at g2
            refine Brn.mk (fun g3 => ?_) (fun g3 => ?_)
            · have g3 : wst r (fun j => now j || mixF (hldF now ack y l) y i j) i = 3 := of_decide_eq_true g3
              rw [W] at g3
              refine Brn.mk (fun _ => AVle.tup2 (stp_le e0 (fun _ _ => rfl) my ((rea_a g1 (.inr g3)).symm) rfl (hk.trans (if_pos (by omega)).symm) hl6) (.nilErr e0)) (fun g4 => absurd (show 2 ≤ wst r (fun j => now j || mixF (hldF now ack y l) y i j) i by rw [W]; omega) (of_decide_eq_false g4))
            · have g3 : ¬ wst r (fun j => now j || mixF (hldF now ack y l) y i j) i = 3 := of_decide_eq_false g3
              rw [W] at g3
              refine Brn.mk (fun g4 => ?_) (fun g4 => ?_)
              · have g4 : 2 ≤ wst r (fun j => now j || mixF (hldF now ack y l) y i j) i := of_decide_eq_true g4
                rw [W] at g4
                exact AVle.tup2 (stp_le e0 (fun _ _ => rfl) my ((congrArg (fun w => max w re) W).trans (rea_b (fun q => by omega) g4).symm) rfl (hk.trans (if_pos (by omega)).symm) hl6) (.nilErr e0)
              · have g4 : ¬ 2 ≤ wst r (fun j => now j || mixF (hldF now ack y l) y i j) i := of_decide_eq_false g4
                rw [W] at g4
                exact AVle.tup2 (stp_le e0 (fun _ _ => rfl) my (W.trans (rea_c g4).symm) rfl (hk.trans (if_pos (by omega)).symm) hl6) (.nilErr e0)
        · have g1 : still = false := g1
          refine Brn.mk (fun g4 => ?_) (fun g4 => ?_)
          · have g4 : 2 ≤ wst r (fun j => now j || mixF (hldF now ack y l) y i j) i := of_decide_eq_true g4
            rw [W] at g4
            exact AVle.tup2 (stp_le e0 (fun _ _ => rfl) my ((congrArg (fun w => max w re) W).trans (rea_b (fun q => by rw [g1] at q; cases q.1) g4).symm) rfl (hk.trans (if_pos (by omega)).symm) hl6) (.nilErr e0)
          · have g4 : ¬ 2 ≤ wst r (fun j => now j || mixF (hldF now ack y l) y i j) i := of_decide_eq_false g4
            rw [W] at g4
            exact AVle.tup2 (stp_le e0 (fun _ _ => rfl) my (W.trans (rea_c g4).symm) rfl (hk.trans (if_pos (by omega)).symm) hl6) (.nilErr e0)
      · have h5 : ¬ (0 : Int) < wr ((lgN k (ccF now x) i : Int) - 16) := of_decide_eq_false h5
        rw [ew] at h5
        have hk1 : lgN k (ccF now x) i ≤ 1000 := hN
        have hl7 : ∀ a b, a < lgN k (ccF now x) i → b < 2 → evnF (lgA k (ccF now x) ea (fun i => i) i) (lgA k (ccF now x) eb (fun _ => nTk tk) i) a b =
            evnF (lgD (lgN k (ccF now x) i) (lgA k (ccF now x) ea (fun i => i) i)) (lgD (lgN k (ccF now x) i) (lgA k (ccF now x) eb (fun _ => nTk tk) i)) a b := fun a b _ _ => by
          unfold evnF lgD
          rw [if_neg (by omega), if_neg (by omega)]
        refine Chk.mk ⟨⟨isR_mk, hn⟩, ⟨isB_mk, isB_mk, isE_mk, hn, hn, hk1⟩, Nat.le_refl _, Nat.le_refl _⟩ ?_
        refine Brn.mk (fun g1 => ?_) (fun g1 => ?_)
        · have g1 : still = true := g1
          refine Brn.mk (fun g2 => ?_) (fun g2 => ?_)
          · have g2 : wst r (fun j => now j || mixF (hldF now ack y l) y i j) i = 2 := of_decide_eq_true g2
            rw [W] at g2
            refine Brn.mk (fun _ => AVle.tup2 (stp_le e0 (fun _ _ => rfl) my ((rea_a g1 (.inl g2)).symm) rfl (if_neg (by omega)).symm hl7) (.nilErr e0)) (fun g3 => absurd (show 2 ≤ wst r (fun j => now j || mixF (hldF now ack y l) y i j) i by rw [W]; omega) (of_decide_eq_false g3))
          · have g2 : ¬ wst r (fun j => now j || mixF (hldF now ack y l) y i j) i = 2 := of_decide_eq_false g2
            rw [W] at g2
            refine Brn.mk (fun g3 => ?_) (fun g3 => ?_)
            · have g3 : wst r (fun j => now j || mixF (hldF now ack y l) y i j) i = 3 := of_decide_eq_true g3
              rw [W] at g3
              refine Brn.mk (fun _ => AVle.tup2 (stp_le e0 (fun _ _ => rfl) my ((rea_a g1 (.inr g3)).symm) rfl (if_neg (by omega)).symm hl7) (.nilErr e0)) (fun g4 => absurd (show 2 ≤ wst r (fun j => now j || mixF (hldF now ack y l) y i j) i by rw [W]; omega) (of_decide_eq_false g4))
            · have g3 : ¬ wst r (fun j => now j || mixF (hldF now ack y l) y i j) i = 3 := of_decide_eq_false g3
              rw [W] at g3
              refine Brn.mk (fun g4 => ?_) (fun g4 => ?_)
              · have g4 : 2 ≤ wst r (fun j => now j || mixF (hldF now ack y l) y i j) i := of_decide_eq_true g4
                rw [W] at g4
                exact AVle.tup2 (stp_le e0 (fun _ _ => rfl) my ((congrArg (fun w => max w re) W).trans (rea_b (fun q => by omega) g4).symm) rfl (if_neg (by omega)).symm hl7) (.nilErr e0)
              · have g4 : ¬ 2 ≤ wst r (fun j => now j || mixF (hldF now ack y l) y i j) i := of_decide_eq_false g4
                rw [W] at g4
                exact AVle.tup2 (stp_le e0 (fun _ _ => rfl) my (W.trans (rea_c g4).symm) rfl (if_neg (by omega)).symm hl7) (.nilErr e0)
        · have g1 : still = false := g1
          refine Brn.mk (fun g4 => ?_) (fun g4 => ?_)
          · have g4 : 2 ≤ wst r (fun j => now j || mixF (hldF now ack y l) y i j) i := of_decide_eq_true g4
            rw [W] at g4
            exact AVle.tup2 (stp_le e0 (fun _ _ => rfl) my ((congrArg (fun w => max w re) W).trans (rea_b (fun q => by rw [g1] at q; cases q.1) g4).symm) rfl (if_neg (by omega)).symm hl7) (.nilErr e0)
          · have g4 : ¬ 2 ≤ wst r (fun j => now j || mixF (hldF now ack y l) y i j) i := of_decide_eq_false g4
            rw [W] at g4
            exact AVle.tup2 (stp_le e0 (fun _ _ => rfl) my (W.trans (rea_c g4).symm) rfl (if_neg (by omega)).symm hl7) (.nilErr e0)
  · trivial
end
end Go.Proofs.Ytiodcjbpfhfmbaa.Img
