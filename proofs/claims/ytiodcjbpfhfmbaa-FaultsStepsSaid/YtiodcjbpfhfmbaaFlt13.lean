/- Chapter 48: the reference's Step. Conditions: none. -/
import Derived.Test.YtiodcjbpfhfmbaaFlt6
import Derived.Test.YtiodcjbpfhfmbaaFlt12t
namespace Go.Proofs.Ytiodcjbpfhfmbaa.Img
open Go Go.Proofs.Ytiodcjbpfhfmbaa.AI Go.Proofs
noncomputable section
set_option maxRecDepth 100000
def sWst4 : Sp
  | [.sl s n f, .agg [.sl sa na fa, .sl sh nh fh, .int .i64 _, .int .i64 _, .sl sg k fg]] => .pre (WOK s n f (.sl sa na fa) (.sl sh nh fh) (.sl sg k fg)) (.int .i64 (wst (vI f) (fun i => vB fa i || vB fh i) n))
  | _ => .no
theorem ok34b : EntOK Try.prog TE 34 sWst4 := by
  refine ⟨ok34.call, fun args => ?_⟩
  unfold sWst4
  split
  · rename_i s n f sa na fa sh nh fh re tk sg k fg
    exact ok34.ok [.sl s n f, .agg [.sl sa na fa, .sl sh nh fh, .int .i64 re, .int .i64 tk, .sl sg k fg]]
  · trivial
def rstL (n : Nat) (r : Nat → Int) (l : Nat → Bool) (x y : Nat → Bool) (re tk : Int) (k : Nat) (ea eb : Nat → Int) (now : Nat → Bool) (ack still : Bool) : List AV :=
  stL n n now (hldF now ack y l) (rea (wst r (fun i => now i || hldF now ack y l i) n) re still) (nTk tk) (lgC (lgN k (ccF now x) n)) (lgD (lgN k (ccF now x) n) (lgA k (ccF now x) ea (fun i => i) n)) (lgD (lgN k (ccF now x) n) (lgA k (ccF now x) eb (fun _ => nTk tk) n))
theorem rst_le {T : TypeId} {n : Nat} {r : Nat → Int} {l x y : Nat → Bool} {re tk : Int} {k : Nat} {ea eb : Nat → Int} {now : Nat → Bool} {ack still : Bool} {X Y L : Nat → Nat → AV} {re' tk' : Int} {k' : Nat}
    (hx : ∀ i, i < n → X i 0 = .bit (now i)) (hy : ∀ i, i < n → Y i 0 = .bit (hldF now ack y l i)) (hre : re' = rea (wst r (fun i => now i || hldF now ack y l i) n) re still) (htk : tk' = nTk tk)
    (hk : k' = lgC (lgN k (ccF now x) n)) (hl : ∀ i j, i < k' → j < 2 → L i j = evnF (lgD (lgN k (ccF now x) n) (lgA k (ccF now x) ea (fun i => i) n)) (lgD (lgN k (ccF now x) n) (lgA k (ccF now x) eb (fun _ => nTk tk) n)) i j) :
    AVle2 T (.agg [.sl 1 n X, .sl 1 n Y, .int .i64 re', .int .i64 tk', .sl 2 k' L]) (.agg (rstL n r l x y re tk k ea eb now ack still)) := by
  subst hre htk hk
  refine .aggL ⟨.sl rfl fun i j hi hj => .of_eq ?_, .sl rfl fun i j hi hj => .of_eq ?_, .refl, .refl, .sl rfl fun i j hi hj => .of_eq (hl i j hi hj), trivial⟩
  · have : j = 0 := by omega
    subst this; exact hx i hi
  · have : j = 0 := by omega
    subst this; exact hy i hi
structure RsOK (s n : Nat) (f : Nat → Nat → AV) (a h lg nw : AV) (tk : Int) : Prop where
  r : RulOK s n f
  s : StOK a h lg
  i : InOK nw
  na : slN a = n
  nh : slN h = n
  nn : slN nw = n
  t0 : 0 ≤ tk
  t1 : tk ≤ 1099511627776
  n : n ≤ 32
  k : slN lg ≤ 16
def sRStep : Sp
  | [.sl s n f, .agg [a, h, .int .i64 re, .int .i64 tk, lg], .agg [nw, .bit p, .bit q]] => .pre (RsOK s n f a h lg nw tk)
      (.agg (rstL n (vI f) (vL f) (vB (slF a)) (vB (slF h)) re tk (slN lg) (vI (slF lg)) (vJ (slF lg)) (vB (slF nw)) p q))
  | _ => .no
set_option maxHeartbeats 8000000 in
theorem ok20 : EntOK Try.prog TE 20 sRStep := by
  refine ⟨callable_of Try.func20 (by kernel_rfl), fun args => ?_⟩
  unfold sRStep
  split
  · rename_i s n f a h re tk lg nw ack still
    rintro ⟨⟨hf, hn⟩, H, ⟨hnw, hnn⟩, ena, enh, enn, t0, t1, n32, k16⟩
    refine FnOK.args (m := [.sl 2 n (rulF (vI f) (vL f)), .agg (stL (slN a) (slN h) (vB (slF a)) (vB (slF h)) re tk (slN lg) (vI (slF lg)) (vJ (slF lg))), .agg [.sl 1 (slN nw) (bitF (vB (slF nw))), .bit ack, .bit still]]) ?_ ⟨le2_sl hf.le1, H.le, .aggL ⟨hnw.le, .refl, .refl, trivial⟩, trivial⟩
    rw [ena, enh, enn]
    generalize vI f = r at *
    generalize vL f = l at *
    generalize slN lg = k at *
    generalize vB (slF a) = x at *
    generalize vB (slF h) = y at *
    generalize vB (slF nw) = now at *
    generalize vI (slF lg) = ea at *
    generalize vJ (slF lg) = eb at *
    refine fn_ofF tabsOK (specOK_cons ok16b (specOK_cons ok34b specOK_nil)) mixed Try.func20 (by kernel_rfl) ?_
    have w1 : min (wr (tk + 1)) 1099511627776 = nTk tk := by rw [wr_id (by omega) (by omega)]; rfl
    have kb : ∀ i, i ≤ n → lgN k (ccF now x) i ≤ 1000 := fun i hi => by have := lgN_le k (ccF now x) i; omega
    refine Chk.mk ⟨isR_mk, hn⟩ ?_
    refine Chk.mk ⟨(show k * 16 ≤ 140737488355328 by omega), (show k ≤ 9223372036854775807 by omega)⟩ ?_
    refine LoopOK.mk ⟨{ i : Nat // i ≤ n }, fun i => mkSt [(0, .sl 2 n (rulF r l)), (4, .loc 4 0), (5, .loc 5 0), (6, .loc 6 0), (7, .loc 7 0), (8, .int .i64 i.1)]
      [(4, ⟨28, 5, 1, fun _ j => nth (stL n n x y re tk k ea eb) j, 0, true⟩), (5, ⟨39, 3, 1, fun _ j => nth [.sl 1 n (bitF now), .bit ack, .bit still] j, 0, true⟩),
       (6, ⟨28, 5, 1, fun _ j => nth [.nilS, .nilS, .int .i64 0, .int .i64 0, .nilS] j, 0, true⟩),
       (7, ⟨28, 5, 1, fun _ j => nth [.own 201 n, .own 202 n, .int .i64 0, .int .i64 (nTk tk), .own 203 (lgN k (ccF now x) i.1)] j, 0, true⟩),
       (201, ⟨4, 1, n, bitF (mixF now (fun _ => false) i.1), 0, false⟩), (202, ⟨4, 1, n, bitF (mixF (hldF now ack y l) (fun _ => false) i.1), 0, false⟩),
       (203, ⟨57, 2, lgN k (ccF now x) i.1, evnF (lgA k (ccF now x) ea (fun i => i) i.1) (lgA k (ccF now x) eb (fun _ => nTk tk) i.1), 1, false⟩)], fun i => n - i.1, ⟨⟨0, by omega⟩, ?_⟩, ?_⟩
    · refine wk_of [(4, some 4), (5, some 5), (6, some 6), (7, some 7), (201, some 11), (202, some 511), (203, some 21)] rfl ⟨⟨rfl, rfl⟩, rfl, rfl, rfl, rfl, ⟨rfl, rfl⟩, trivial⟩
        ⟨RowLe.fin rfl rfl rfl rfl rfl ?_, RowLe.fin rfl rfl rfl rfl rfl ?_, RowLe.fin rfl rfl rfl rfl rfl ?_, RowLe.fin rfl rfl rfl rfl rfl ⟨trivial, ⟨⟨⟨⟨⟨trivial, ?_⟩, ?_⟩, ?_⟩, ?_⟩, ?_⟩⟩, ⟨rfl, rfl, rfl, rfl, rfl, fun a b _ hb => Or.inr ?_⟩, ⟨rfl, rfl, rfl, rfl, rfl, fun a b _ hb => Or.inr ?_⟩, ⟨rfl, rfl, rfl, rfl, rfl, fun _ _ _ _ => Or.inr rfl⟩, trivial⟩
      · (repeat' first | exact trivial | exact ⟨by kernel_rfl, by kernel_rfl⟩ | exact Or.inr (by kernel_rfl) | (show _ = _; kernel_rfl) | refine ⟨?_, ?_⟩)
      · (repeat' first | exact trivial | exact ⟨by kernel_rfl, by kernel_rfl⟩ | exact Or.inr (by kernel_rfl) | (show _ = _; kernel_rfl) | refine ⟨?_, ?_⟩)
      · (repeat' first | exact trivial | exact ⟨by kernel_rfl, by kernel_rfl⟩ | exact Or.inr (by kernel_rfl) | (show _ = _; kernel_rfl) | refine ⟨?_, ?_⟩)
      · exact rfl
      · exact rfl
      · exact renI rfl
      · exact renI w1
      · exact rfl
      · have hb : b < 1 := hb
        have : b = 0 := by omega
        subst this
        show AV.bit (mixF now (fun _ => false) 0 a) = .bit false
        rw [mixF, if_neg (by omega)]
      · have hb : b < 1 := hb
        have : b = 0 := by omega
        subst this
        show AV.bit (mixF (hldF now ack y l) (fun _ => false) 0 a) = .bit false
        rw [mixF, if_neg (by omega)]
    rintro ⟨i, hi⟩
    have hi : i ≤ n := hi
    refine Brn.mk (fun h3 => ?_) (fun h3 => ?_)
    · have h3 : (i : Int) < n := of_decide_eq_true h3
      have ix : (0 : Int) ≤ (i : Int) ∧ (i : Int) < (n : Int) := ⟨Int.natCast_nonneg i, h3⟩
      refine Chk.mk ix ?_
      refine Brn.mk (fun h4 => ?_) (fun h4 => ?_)
      · have h4 : now i = true := h4
        refine Chk.mk ix ?_
        refine Brn.mk (fun h9 => ?_) (fun h9 => ?_)
        · have hc : ccF now x i = true := by rw [ccF, h4, show (!x i) = true from h9]; rfl
          have := kb i (by omega)
          refine Chk.mk ⟨(show (lgN k (ccF now x) i + 1) * 16 ≤ 140737488355328 by omega), (show lgN k (ccF now x) i + 1 ≤ 9223372036854775807 by omega)⟩ ?_
          refine Chk.mk ix (Chk.mk ix (Chk.mk (by kernel_rfl) ?_))
          refine Chk.mk ix ?_
          refine Brn.mk (fun h5 => ?_) (fun h5 => ?_)
          · have h5 : y i = true := h5
            refine Chk.mk ix (Chk.mk (by kernel_rfl) ?_)
            refine Brn.mk (fun h6 => ?_) (fun h6 => ?_)
            · have h6 : ack = true := h6
              refine Chk.mk ix ?_
              refine Brn.mk (fun h7 => absurd (show (!now i) = true from h7) (by rw [h4]; decide)) (fun _ => ?_)
              have hF : hldF now ack y l i = (y i || l i) := if_pos h4
              refine ⟨⟨i + 1, by omega⟩, by show n - (i + 1) < n - i; omega, ?_⟩
              have eN : lgN k (ccF now x) (i + 1) = lgN k (ccF now x) i + 1 := if_pos hc
              have eA : lgA k (ccF now x) ea (fun i => i) (i + 1) = fun j => if j < lgN k (ccF now x) i then lgA k (ccF now x) ea (fun i => i) i j else i := if_pos hc
              have eB : lgA k (ccF now x) eb (fun _ => nTk tk) (i + 1) = fun j => if j < lgN k (ccF now x) i then lgA k (ccF now x) eb (fun _ => nTk tk) i j else nTk tk := if_pos hc
              refine wk_of [(4, some 4), (5, some 5), (6, some 6), (7, some 7), (201, some 201), (202, some 202), (203, some 49)] rfl ⟨⟨rfl, rfl⟩, rfl, rfl, rfl, rfl, ⟨wrS (i := i) (by omega), rfl⟩, trivial⟩ ⟨RowLe.fin rfl rfl rfl rfl rfl ?_, RowLe.fin rfl rfl rfl rfl rfl ?_, RowLe.fin rfl rfl rfl rfl rfl ?_, RowLe.fin rfl rfl rfl rfl rfl ⟨trivial, ⟨⟨⟨⟨⟨trivial, ?_⟩, ?_⟩, ?_⟩, ?_⟩, ?_⟩⟩, RowLe.upd (i := i) (fun k => .bit (mixF now (fun _ => false) (i + 1) k)) rfl rfl rfl (fun k _ hk => congrArg AV.bit (mix_ne hk)) (congrArg AV.bit mix_at.symm), RowLe.upd (i := i) (fun k => .bit (mixF (hldF now ack y l) (fun _ => false) (i + 1) k)) rfl rfl rfl (fun k _ hk => congrArg AV.bit (mix_ne hk)) (congrArg AV.bit (show true = mixF (hldF now ack y l) (fun _ => false) (i + 1) i by rw [mix_at, hF, h5, Bool.true_or])), ⟨rfl, rfl, eN, rfl, rfl, fun a b ha hb => Or.inr ?_⟩, trivial⟩
              · (repeat' first | exact trivial | exact ⟨by kernel_rfl, by kernel_rfl⟩ | exact Or.inr (by kernel_rfl) | (show _ = _; kernel_rfl) | refine ⟨?_, ?_⟩)
              · (repeat' first | exact trivial | exact ⟨by kernel_rfl, by kernel_rfl⟩ | exact Or.inr (by kernel_rfl) | (show _ = _; kernel_rfl) | refine ⟨?_, ?_⟩)
              · (repeat' first | exact trivial | exact ⟨by kernel_rfl, by kernel_rfl⟩ | exact Or.inr (by kernel_rfl) | (show _ = _; kernel_rfl) | refine ⟨?_, ?_⟩)
              · exact rfl
              · exact rfl
              · exact renI rfl
              · exact renI rfl
              · exact congrArg (AV.own 49) eN.symm
              · show evnF (lgA k (ccF now x) ea (fun i => i) (i + 1)) (lgA k (ccF now x) eb (fun _ => nTk tk) (i + 1)) a b = _
                rw [eA, eB]
                dsimp only
                refine app2 (n := lgN k (ccF now x) i) (A := lgA k (ccF now x) ea (fun i => i) i) (B := lgA k (ccF now x) eb (fun _ => nTk tk) i) (A' := fun j => if j < lgN k (ccF now x) i then lgA k (ccF now x) ea (fun i => i) i j else (i : Int)) (B' := fun j => if j < lgN k (ccF now x) i then lgA k (ccF now x) eb (fun _ => nTk tk) i j else nTk tk) (fun j hj => ⟨(if_pos hj).symm, (if_pos hj).symm⟩) ?_ ?_ ha hb
                · exact congrArg (AV.int .i64) (if_neg (Nat.lt_irrefl (lgN k (ccF now x) i))).symm
                · exact congrArg (AV.int .i64) (if_neg (Nat.lt_irrefl (lgN k (ccF now x) i))).symm
            · have h6 : ack = false := h6
              have hF : hldF now ack y l i = (y i || l i) := if_pos h4
              refine ⟨⟨i + 1, by omega⟩, by show n - (i + 1) < n - i; omega, ?_⟩
              have eN : lgN k (ccF now x) (i + 1) = lgN k (ccF now x) i + 1 := if_pos hc
              have eA : lgA k (ccF now x) ea (fun i => i) (i + 1) = fun j => if j < lgN k (ccF now x) i then lgA k (ccF now x) ea (fun i => i) i j else i := if_pos hc
              have eB : lgA k (ccF now x) eb (fun _ => nTk tk) (i + 1) = fun j => if j < lgN k (ccF now x) i then lgA k (ccF now x) eb (fun _ => nTk tk) i j else nTk tk := if_pos hc
              refine wk_of [(4, some 4), (5, some 5), (6, some 6), (7, some 7), (201, some 201), (202, some 202), (203, some 49)] rfl ⟨⟨rfl, rfl⟩, rfl, rfl, rfl, rfl, ⟨wrS (i := i) (by omega), rfl⟩, trivial⟩ ⟨RowLe.fin rfl rfl rfl rfl rfl ?_, RowLe.fin rfl rfl rfl rfl rfl ?_, RowLe.fin rfl rfl rfl rfl rfl ?_, RowLe.fin rfl rfl rfl rfl rfl ⟨trivial, ⟨⟨⟨⟨⟨trivial, ?_⟩, ?_⟩, ?_⟩, ?_⟩, ?_⟩⟩, RowLe.upd (i := i) (fun k => .bit (mixF now (fun _ => false) (i + 1) k)) rfl rfl rfl (fun k _ hk => congrArg AV.bit (mix_ne hk)) (congrArg AV.bit mix_at.symm), RowLe.upd (i := i) (fun k => .bit (mixF (hldF now ack y l) (fun _ => false) (i + 1) k)) rfl rfl rfl (fun k _ hk => congrArg AV.bit (mix_ne hk)) (congrArg AV.bit (show true = mixF (hldF now ack y l) (fun _ => false) (i + 1) i by rw [mix_at, hF, h5, Bool.true_or])), ⟨rfl, rfl, eN, rfl, rfl, fun a b ha hb => Or.inr ?_⟩, trivial⟩
              · (repeat' first | exact trivial | exact ⟨by kernel_rfl, by kernel_rfl⟩ | exact Or.inr (by kernel_rfl) | (show _ = _; kernel_rfl) | refine ⟨?_, ?_⟩)
              · (repeat' first | exact trivial | exact ⟨by kernel_rfl, by kernel_rfl⟩ | exact Or.inr (by kernel_rfl) | (show _ = _; kernel_rfl) | refine ⟨?_, ?_⟩)
              · (repeat' first | exact trivial | exact ⟨by kernel_rfl, by kernel_rfl⟩ | exact Or.inr (by kernel_rfl) | (show _ = _; kernel_rfl) | refine ⟨?_, ?_⟩)
              · exact rfl
              · exact rfl
              · exact renI rfl
              · exact renI rfl
              · exact congrArg (AV.own 49) eN.symm
              · show evnF (lgA k (ccF now x) ea (fun i => i) (i + 1)) (lgA k (ccF now x) eb (fun _ => nTk tk) (i + 1)) a b = _
                rw [eA, eB]
                dsimp only
                refine app2 (n := lgN k (ccF now x) i) (A := lgA k (ccF now x) ea (fun i => i) i) (B := lgA k (ccF now x) eb (fun _ => nTk tk) i) (A' := fun j => if j < lgN k (ccF now x) i then lgA k (ccF now x) ea (fun i => i) i j else (i : Int)) (B' := fun j => if j < lgN k (ccF now x) i then lgA k (ccF now x) eb (fun _ => nTk tk) i j else nTk tk) (fun j hj => ⟨(if_pos hj).symm, (if_pos hj).symm⟩) ?_ ?_ ha hb
                · exact congrArg (AV.int .i64) (if_neg (Nat.lt_irrefl (lgN k (ccF now x) i))).symm
                · exact congrArg (AV.int .i64) (if_neg (Nat.lt_irrefl (lgN k (ccF now x) i))).symm
          · have h5 : y i = false := h5
            refine Chk.mk ix ?_
            refine Brn.mk (fun _ => ?_) (fun h8 => absurd h4 (by rw [show now i = false from h8]; decide))
            refine Chk.mk ix ?_
            refine Chk.mk ix (Chk.mk (by kernel_rfl) ?_)
            refine Brn.mk (fun h6 => ?_) (fun h6 => ?_)
            · have h6 : ack = true := h6
              refine Chk.mk ix ?_
              refine Brn.mk (fun h7 => absurd (show (!now i) = true from h7) (by rw [h4]; decide)) (fun _ => ?_)
              have hF : hldF now ack y l i = (y i || l i) := if_pos h4
              refine ⟨⟨i + 1, by omega⟩, by show n - (i + 1) < n - i; omega, ?_⟩
              have eN : lgN k (ccF now x) (i + 1) = lgN k (ccF now x) i + 1 := if_pos hc
              have eA : lgA k (ccF now x) ea (fun i => i) (i + 1) = fun j => if j < lgN k (ccF now x) i then lgA k (ccF now x) ea (fun i => i) i j else i := if_pos hc
              have eB : lgA k (ccF now x) eb (fun _ => nTk tk) (i + 1) = fun j => if j < lgN k (ccF now x) i then lgA k (ccF now x) eb (fun _ => nTk tk) i j else nTk tk := if_pos hc
              refine wk_of [(4, some 4), (5, some 5), (6, some 6), (7, some 7), (201, some 201), (202, some 202), (203, some 49)] rfl ⟨⟨rfl, rfl⟩, rfl, rfl, rfl, rfl, ⟨wrS (i := i) (by omega), rfl⟩, trivial⟩ ⟨RowLe.fin rfl rfl rfl rfl rfl ?_, RowLe.fin rfl rfl rfl rfl rfl ?_, RowLe.fin rfl rfl rfl rfl rfl ?_, RowLe.fin rfl rfl rfl rfl rfl ⟨trivial, ⟨⟨⟨⟨⟨trivial, ?_⟩, ?_⟩, ?_⟩, ?_⟩, ?_⟩⟩, RowLe.upd (i := i) (fun k => .bit (mixF now (fun _ => false) (i + 1) k)) rfl rfl rfl (fun k _ hk => congrArg AV.bit (mix_ne hk)) (congrArg AV.bit mix_at.symm), RowLe.upd (i := i) (fun k => .bit (mixF (hldF now ack y l) (fun _ => false) (i + 1) k)) rfl rfl rfl (fun k _ hk => congrArg AV.bit (mix_ne hk)) (congrArg AV.bit (show l i = mixF (hldF now ack y l) (fun _ => false) (i + 1) i by rw [mix_at, hF, h5, Bool.false_or])), ⟨rfl, rfl, eN, rfl, rfl, fun a b ha hb => Or.inr ?_⟩, trivial⟩
              · (repeat' first | exact trivial | exact ⟨by kernel_rfl, by kernel_rfl⟩ | exact Or.inr (by kernel_rfl) | (show _ = _; kernel_rfl) | refine ⟨?_, ?_⟩)
              · (repeat' first | exact trivial | exact ⟨by kernel_rfl, by kernel_rfl⟩ | exact Or.inr (by kernel_rfl) | (show _ = _; kernel_rfl) | refine ⟨?_, ?_⟩)
              · (repeat' first | exact trivial | exact ⟨by kernel_rfl, by kernel_rfl⟩ | exact Or.inr (by kernel_rfl) | (show _ = _; kernel_rfl) | refine ⟨?_, ?_⟩)
              · exact rfl
              · exact rfl
              · exact renI rfl
              · exact renI rfl
              · exact congrArg (AV.own 49) eN.symm
              · show evnF (lgA k (ccF now x) ea (fun i => i) (i + 1)) (lgA k (ccF now x) eb (fun _ => nTk tk) (i + 1)) a b = _
                rw [eA, eB]
                dsimp only
                refine app2 (n := lgN k (ccF now x) i) (A := lgA k (ccF now x) ea (fun i => i) i) (B := lgA k (ccF now x) eb (fun _ => nTk tk) i) (A' := fun j => if j < lgN k (ccF now x) i then lgA k (ccF now x) ea (fun i => i) i j else (i : Int)) (B' := fun j => if j < lgN k (ccF now x) i then lgA k (ccF now x) eb (fun _ => nTk tk) i j else nTk tk) (fun j hj => ⟨(if_pos hj).symm, (if_pos hj).symm⟩) ?_ ?_ ha hb
                · exact congrArg (AV.int .i64) (if_neg (Nat.lt_irrefl (lgN k (ccF now x) i))).symm
                · exact congrArg (AV.int .i64) (if_neg (Nat.lt_irrefl (lgN k (ccF now x) i))).symm
            · have h6 : ack = false := h6
              have hF : hldF now ack y l i = (y i || l i) := if_pos h4
              refine ⟨⟨i + 1, by omega⟩, by show n - (i + 1) < n - i; omega, ?_⟩
              have eN : lgN k (ccF now x) (i + 1) = lgN k (ccF now x) i + 1 := if_pos hc
              have eA : lgA k (ccF now x) ea (fun i => i) (i + 1) = fun j => if j < lgN k (ccF now x) i then lgA k (ccF now x) ea (fun i => i) i j else i := if_pos hc
              have eB : lgA k (ccF now x) eb (fun _ => nTk tk) (i + 1) = fun j => if j < lgN k (ccF now x) i then lgA k (ccF now x) eb (fun _ => nTk tk) i j else nTk tk := if_pos hc
              refine wk_of [(4, some 4), (5, some 5), (6, some 6), (7, some 7), (201, some 201), (202, some 202), (203, some 49)] rfl ⟨⟨rfl, rfl⟩, rfl, rfl, rfl, rfl, ⟨wrS (i := i) (by omega), rfl⟩, trivial⟩ ⟨RowLe.fin rfl rfl rfl rfl rfl ?_, RowLe.fin rfl rfl rfl rfl rfl ?_, RowLe.fin rfl rfl rfl rfl rfl ?_, RowLe.fin rfl rfl rfl rfl rfl ⟨trivial, ⟨⟨⟨⟨⟨trivial, ?_⟩, ?_⟩, ?_⟩, ?_⟩, ?_⟩⟩, RowLe.upd (i := i) (fun k => .bit (mixF now (fun _ => false) (i + 1) k)) rfl rfl rfl (fun k _ hk => congrArg AV.bit (mix_ne hk)) (congrArg AV.bit mix_at.symm), RowLe.upd (i := i) (fun k => .bit (mixF (hldF now ack y l) (fun _ => false) (i + 1) k)) rfl rfl rfl (fun k _ hk => congrArg AV.bit (mix_ne hk)) (congrArg AV.bit (show l i = mixF (hldF now ack y l) (fun _ => false) (i + 1) i by rw [mix_at, hF, h5, Bool.false_or])), ⟨rfl, rfl, eN, rfl, rfl, fun a b ha hb => Or.inr ?_⟩, trivial⟩
              · (repeat' first | exact trivial | exact ⟨by kernel_rfl, by kernel_rfl⟩ | exact Or.inr (by kernel_rfl) | (show _ = _; kernel_rfl) | refine ⟨?_, ?_⟩)
              · (repeat' first | exact trivial | exact ⟨by kernel_rfl, by kernel_rfl⟩ | exact Or.inr (by kernel_rfl) | (show _ = _; kernel_rfl) | refine ⟨?_, ?_⟩)
              · (repeat' first | exact trivial | exact ⟨by kernel_rfl, by kernel_rfl⟩ | exact Or.inr (by kernel_rfl) | (show _ = _; kernel_rfl) | refine ⟨?_, ?_⟩)
              · exact rfl
              · exact rfl
              · exact renI rfl
              · exact renI rfl
              · exact congrArg (AV.own 49) eN.symm
              · show evnF (lgA k (ccF now x) ea (fun i => i) (i + 1)) (lgA k (ccF now x) eb (fun _ => nTk tk) (i + 1)) a b = _
                rw [eA, eB]
                dsimp only
                refine app2 (n := lgN k (ccF now x) i) (A := lgA k (ccF now x) ea (fun i => i) i) (B := lgA k (ccF now x) eb (fun _ => nTk tk) i) (A' := fun j => if j < lgN k (ccF now x) i then lgA k (ccF now x) ea (fun i => i) i j else (i : Int)) (B' := fun j => if j < lgN k (ccF now x) i then lgA k (ccF now x) eb (fun _ => nTk tk) i j else nTk tk) (fun j hj => ⟨(if_pos hj).symm, (if_pos hj).symm⟩) ?_ ?_ ha hb
                · exact congrArg (AV.int .i64) (if_neg (Nat.lt_irrefl (lgN k (ccF now x) i))).symm
                · exact congrArg (AV.int .i64) (if_neg (Nat.lt_irrefl (lgN k (ccF now x) i))).symm
        · have hc : ccF now x i = false := by rw [ccF, h4, show (!x i) = false from h9]; rfl
          refine Chk.mk ix (Chk.mk ix (Chk.mk (by kernel_rfl) ?_))
          refine Chk.mk ix ?_
          refine Brn.mk (fun h5 => ?_) (fun h5 => ?_)
          · have h5 : y i = true := h5
            refine Chk.mk ix (Chk.mk (by kernel_rfl) ?_)
            refine Brn.mk (fun h6 => ?_) (fun h6 => ?_)
            · have h6 : ack = true := h6
              refine Chk.mk ix ?_
              refine Brn.mk (fun h7 => absurd (show (!now i) = true from h7) (by rw [h4]; decide)) (fun _ => ?_)
              have hF : hldF now ack y l i = (y i || l i) := if_pos h4
              refine ⟨⟨i + 1, by omega⟩, by show n - (i + 1) < n - i; omega, ?_⟩
              have eN : lgN k (ccF now x) (i + 1) = lgN k (ccF now x) i := if_neg (by rw [hc]; decide)
              have eA : lgA k (ccF now x) ea (fun i => i) (i + 1) = lgA k (ccF now x) ea (fun i => i) i := if_neg (by rw [hc]; decide)
              have eB : lgA k (ccF now x) eb (fun _ => nTk tk) (i + 1) = lgA k (ccF now x) eb (fun _ => nTk tk) i := if_neg (by rw [hc]; decide)
              refine wk_of [(4, some 4), (5, some 5), (6, some 6), (7, some 7), (201, some 201), (202, some 202), (203, some 203)] rfl ⟨⟨rfl, rfl⟩, rfl, rfl, rfl, rfl, ⟨wrS (i := i) (by omega), rfl⟩, trivial⟩ ⟨RowLe.fin rfl rfl rfl rfl rfl ?_, RowLe.fin rfl rfl rfl rfl rfl ?_, RowLe.fin rfl rfl rfl rfl rfl ?_, RowLe.fin rfl rfl rfl rfl rfl ⟨trivial, ⟨⟨⟨⟨⟨trivial, ?_⟩, ?_⟩, ?_⟩, ?_⟩, ?_⟩⟩, RowLe.upd (i := i) (fun k => .bit (mixF now (fun _ => false) (i + 1) k)) rfl rfl rfl (fun k _ hk => congrArg AV.bit (mix_ne hk)) (congrArg AV.bit mix_at.symm), RowLe.upd (i := i) (fun k => .bit (mixF (hldF now ack y l) (fun _ => false) (i + 1) k)) rfl rfl rfl (fun k _ hk => congrArg AV.bit (mix_ne hk)) (congrArg AV.bit (show true = mixF (hldF now ack y l) (fun _ => false) (i + 1) i by rw [mix_at, hF, h5, Bool.true_or])), ⟨rfl, rfl, eN, rfl, rfl, fun a b ha hb => Or.inr ?_⟩, trivial⟩
              · (repeat' first | exact trivial | exact ⟨by kernel_rfl, by kernel_rfl⟩ | exact Or.inr (by kernel_rfl) | (show _ = _; kernel_rfl) | refine ⟨?_, ?_⟩)
              · (repeat' first | exact trivial | exact ⟨by kernel_rfl, by kernel_rfl⟩ | exact Or.inr (by kernel_rfl) | (show _ = _; kernel_rfl) | refine ⟨?_, ?_⟩)
              · (repeat' first | exact trivial | exact ⟨by kernel_rfl, by kernel_rfl⟩ | exact Or.inr (by kernel_rfl) | (show _ = _; kernel_rfl) | refine ⟨?_, ?_⟩)
              · exact rfl
              · exact rfl
              · exact renI rfl
              · exact renI rfl
              · exact congrArg (AV.own 203) eN.symm
              · show evnF (lgA k (ccF now x) ea (fun i => i) (i + 1)) (lgA k (ccF now x) eb (fun _ => nTk tk) (i + 1)) a b = _
                rw [eA, eB]
            · have h6 : ack = false := h6
              have hF : hldF now ack y l i = (y i || l i) := if_pos h4
              refine ⟨⟨i + 1, by omega⟩, by show n - (i + 1) < n - i; omega, ?_⟩
              have eN : lgN k (ccF now x) (i + 1) = lgN k (ccF now x) i := if_neg (by rw [hc]; decide)
              have eA : lgA k (ccF now x) ea (fun i => i) (i + 1) = lgA k (ccF now x) ea (fun i => i) i := if_neg (by rw [hc]; decide)
              have eB : lgA k (ccF now x) eb (fun _ => nTk tk) (i + 1) = lgA k (ccF now x) eb (fun _ => nTk tk) i := if_neg (by rw [hc]; decide)
              refine wk_of [(4, some 4), (5, some 5), (6, some 6), (7, some 7), (201, some 201), (202, some 202), (203, some 203)] rfl ⟨⟨rfl, rfl⟩, rfl, rfl, rfl, rfl, ⟨wrS (i := i) (by omega), rfl⟩, trivial⟩ ⟨RowLe.fin rfl rfl rfl rfl rfl ?_, RowLe.fin rfl rfl rfl rfl rfl ?_, RowLe.fin rfl rfl rfl rfl rfl ?_, RowLe.fin rfl rfl rfl rfl rfl ⟨trivial, ⟨⟨⟨⟨⟨trivial, ?_⟩, ?_⟩, ?_⟩, ?_⟩, ?_⟩⟩, RowLe.upd (i := i) (fun k => .bit (mixF now (fun _ => false) (i + 1) k)) rfl rfl rfl (fun k _ hk => congrArg AV.bit (mix_ne hk)) (congrArg AV.bit mix_at.symm), RowLe.upd (i := i) (fun k => .bit (mixF (hldF now ack y l) (fun _ => false) (i + 1) k)) rfl rfl rfl (fun k _ hk => congrArg AV.bit (mix_ne hk)) (congrArg AV.bit (show true = mixF (hldF now ack y l) (fun _ => false) (i + 1) i by rw [mix_at, hF, h5, Bool.true_or])), ⟨rfl, rfl, eN, rfl, rfl, fun a b ha hb => Or.inr ?_⟩, trivial⟩
              · (repeat' first | exact trivial | exact ⟨by kernel_rfl, by kernel_rfl⟩ | exact Or.inr (by kernel_rfl) | (show _ = _; kernel_rfl) | refine ⟨?_, ?_⟩)
              · (repeat' first | exact trivial | exact ⟨by kernel_rfl, by kernel_rfl⟩ | exact Or.inr (by kernel_rfl) | (show _ = _; kernel_rfl) | refine ⟨?_, ?_⟩)
              · (repeat' first | exact trivial | exact ⟨by kernel_rfl, by kernel_rfl⟩ | exact Or.inr (by kernel_rfl) | (show _ = _; kernel_rfl) | refine ⟨?_, ?_⟩)
              · exact rfl
              · exact rfl
              · exact renI rfl
              · exact renI rfl
              · exact congrArg (AV.own 203) eN.symm
              · show evnF (lgA k (ccF now x) ea (fun i => i) (i + 1)) (lgA k (ccF now x) eb (fun _ => nTk tk) (i + 1)) a b = _
                rw [eA, eB]
          · have h5 : y i = false := h5
            refine Chk.mk ix ?_
            refine Brn.mk (fun _ => ?_) (fun h8 => absurd h4 (by rw [show now i = false from h8]; decide))
            refine Chk.mk ix ?_
            refine Chk.mk ix (Chk.mk (by kernel_rfl) ?_)
            refine Brn.mk (fun h6 => ?_) (fun h6 => ?_)
            · have h6 : ack = true := h6
              refine Chk.mk ix ?_
              refine Brn.mk (fun h7 => absurd (show (!now i) = true from h7) (by rw [h4]; decide)) (fun _ => ?_)
              have hF : hldF now ack y l i = (y i || l i) := if_pos h4
              refine ⟨⟨i + 1, by omega⟩, by show n - (i + 1) < n - i; omega, ?_⟩
              have eN : lgN k (ccF now x) (i + 1) = lgN k (ccF now x) i := if_neg (by rw [hc]; decide)
              have eA : lgA k (ccF now x) ea (fun i => i) (i + 1) = lgA k (ccF now x) ea (fun i => i) i := if_neg (by rw [hc]; decide)
              have eB : lgA k (ccF now x) eb (fun _ => nTk tk) (i + 1) = lgA k (ccF now x) eb (fun _ => nTk tk) i := if_neg (by rw [hc]; decide)
              refine wk_of [(4, some 4), (5, some 5), (6, some 6), (7, some 7), (201, some 201), (202, some 202), (203, some 203)] rfl ⟨⟨rfl, rfl⟩, rfl, rfl, rfl, rfl, ⟨wrS (i := i) (by omega), rfl⟩, trivial⟩ ⟨RowLe.fin rfl rfl rfl rfl rfl ?_, RowLe.fin rfl rfl rfl rfl rfl ?_, RowLe.fin rfl rfl rfl rfl rfl ?_, RowLe.fin rfl rfl rfl rfl rfl ⟨trivial, ⟨⟨⟨⟨⟨trivial, ?_⟩, ?_⟩, ?_⟩, ?_⟩, ?_⟩⟩, RowLe.upd (i := i) (fun k => .bit (mixF now (fun _ => false) (i + 1) k)) rfl rfl rfl (fun k _ hk => congrArg AV.bit (mix_ne hk)) (congrArg AV.bit mix_at.symm), RowLe.upd (i := i) (fun k => .bit (mixF (hldF now ack y l) (fun _ => false) (i + 1) k)) rfl rfl rfl (fun k _ hk => congrArg AV.bit (mix_ne hk)) (congrArg AV.bit (show l i = mixF (hldF now ack y l) (fun _ => false) (i + 1) i by rw [mix_at, hF, h5, Bool.false_or])), ⟨rfl, rfl, eN, rfl, rfl, fun a b ha hb => Or.inr ?_⟩, trivial⟩
              · (repeat' first | exact trivial | exact ⟨by kernel_rfl, by kernel_rfl⟩ | exact Or.inr (by kernel_rfl) | (show _ = _; kernel_rfl) | refine ⟨?_, ?_⟩)
              · (repeat' first | exact trivial | exact ⟨by kernel_rfl, by kernel_rfl⟩ | exact Or.inr (by kernel_rfl) | (show _ = _; kernel_rfl) | refine ⟨?_, ?_⟩)
              · (repeat' first | exact trivial | exact ⟨by kernel_rfl, by kernel_rfl⟩ | exact Or.inr (by kernel_rfl) | (show _ = _; kernel_rfl) | refine ⟨?_, ?_⟩)
              · exact rfl
              · exact rfl
              · exact renI rfl
              · exact renI rfl
              · exact congrArg (AV.own 203) eN.symm
              · show evnF (lgA k (ccF now x) ea (fun i => i) (i + 1)) (lgA k (ccF now x) eb (fun _ => nTk tk) (i + 1)) a b = _
                rw [eA, eB]
            · have h6 : ack = false := h6
              have hF : hldF now ack y l i = (y i || l i) := if_pos h4
              refine ⟨⟨i + 1, by omega⟩, by show n - (i + 1) < n - i; omega, ?_⟩
              have eN : lgN k (ccF now x) (i + 1) = lgN k (ccF now x) i := if_neg (by rw [hc]; decide)
              have eA : lgA k (ccF now x) ea (fun i => i) (i + 1) = lgA k (ccF now x) ea (fun i => i) i := if_neg (by rw [hc]; decide)
              have eB : lgA k (ccF now x) eb (fun _ => nTk tk) (i + 1) = lgA k (ccF now x) eb (fun _ => nTk tk) i := if_neg (by rw [hc]; decide)
              refine wk_of [(4, some 4), (5, some 5), (6, some 6), (7, some 7), (201, some 201), (202, some 202), (203, some 203)] rfl ⟨⟨rfl, rfl⟩, rfl, rfl, rfl, rfl, ⟨wrS (i := i) (by omega), rfl⟩, trivial⟩ ⟨RowLe.fin rfl rfl rfl rfl rfl ?_, RowLe.fin rfl rfl rfl rfl rfl ?_, RowLe.fin rfl rfl rfl rfl rfl ?_, RowLe.fin rfl rfl rfl rfl rfl ⟨trivial, ⟨⟨⟨⟨⟨trivial, ?_⟩, ?_⟩, ?_⟩, ?_⟩, ?_⟩⟩, RowLe.upd (i := i) (fun k => .bit (mixF now (fun _ => false) (i + 1) k)) rfl rfl rfl (fun k _ hk => congrArg AV.bit (mix_ne hk)) (congrArg AV.bit mix_at.symm), RowLe.upd (i := i) (fun k => .bit (mixF (hldF now ack y l) (fun _ => false) (i + 1) k)) rfl rfl rfl (fun k _ hk => congrArg AV.bit (mix_ne hk)) (congrArg AV.bit (show l i = mixF (hldF now ack y l) (fun _ => false) (i + 1) i by rw [mix_at, hF, h5, Bool.false_or])), ⟨rfl, rfl, eN, rfl, rfl, fun a b ha hb => Or.inr ?_⟩, trivial⟩
              · (repeat' first | exact trivial | exact ⟨by kernel_rfl, by kernel_rfl⟩ | exact Or.inr (by kernel_rfl) | (show _ = _; kernel_rfl) | refine ⟨?_, ?_⟩)
              · (repeat' first | exact trivial | exact ⟨by kernel_rfl, by kernel_rfl⟩ | exact Or.inr (by kernel_rfl) | (show _ = _; kernel_rfl) | refine ⟨?_, ?_⟩)
              · (repeat' first | exact trivial | exact ⟨by kernel_rfl, by kernel_rfl⟩ | exact Or.inr (by kernel_rfl) | (show _ = _; kernel_rfl) | refine ⟨?_, ?_⟩)
              · exact rfl
              · exact rfl
              · exact renI rfl
              · exact renI rfl
              · exact congrArg (AV.own 203) eN.symm
              · show evnF (lgA k (ccF now x) ea (fun i => i) (i + 1)) (lgA k (ccF now x) eb (fun _ => nTk tk) (i + 1)) a b = _
                rw [eA, eB]
      · have h4 : now i = false := h4
        have hc : ccF now x i = false := by rw [ccF, h4]; rfl
        refine Chk.mk ix (Chk.mk ix (Chk.mk (by kernel_rfl) ?_))
        refine Chk.mk ix ?_
        refine Brn.mk (fun h5 => ?_) (fun h5 => ?_)
        · have h5 : y i = true := h5
          refine Chk.mk ix (Chk.mk (by kernel_rfl) ?_)
          refine Brn.mk (fun h6 => ?_) (fun h6 => ?_)
          · have h6 : ack = true := h6
            refine Chk.mk ix ?_
            refine Brn.mk (fun _ => ?_) (fun h7 => absurd (show (!now i) = false from h7) (by rw [h4]; decide))
            refine Chk.mk ix ?_
            have hF : hldF now ack y l i = false := by rw [hldF, if_neg (by rw [h4]; decide), if_pos h6]
            refine ⟨⟨i + 1, by omega⟩, by show n - (i + 1) < n - i; omega, ?_⟩
            have eN : lgN k (ccF now x) (i + 1) = lgN k (ccF now x) i := if_neg (by rw [hc]; decide)
            have eA : lgA k (ccF now x) ea (fun i => i) (i + 1) = lgA k (ccF now x) ea (fun i => i) i := if_neg (by rw [hc]; decide)
            have eB : lgA k (ccF now x) eb (fun _ => nTk tk) (i + 1) = lgA k (ccF now x) eb (fun _ => nTk tk) i := if_neg (by rw [hc]; decide)
            refine wk_of [(4, some 4), (5, some 5), (6, some 6), (7, some 7), (201, some 201), (202, some 202), (203, some 203)] rfl ⟨⟨rfl, rfl⟩, rfl, rfl, rfl, rfl, ⟨wrS (i := i) (by omega), rfl⟩, trivial⟩ ⟨RowLe.fin rfl rfl rfl rfl rfl ?_, RowLe.fin rfl rfl rfl rfl rfl ?_, RowLe.fin rfl rfl rfl rfl rfl ?_, RowLe.fin rfl rfl rfl rfl rfl ⟨trivial, ⟨⟨⟨⟨⟨trivial, ?_⟩, ?_⟩, ?_⟩, ?_⟩, ?_⟩⟩, RowLe.upd (i := i) (fun k => .bit (mixF now (fun _ => false) (i + 1) k)) rfl rfl rfl (fun k _ hk => congrArg AV.bit (mix_ne hk)) (congrArg AV.bit mix_at.symm), RowLe.upd (i := i) (fun k => .bit (mixF (hldF now ack y l) (fun _ => false) (i + 1) k)) rfl rfl rfl (fun k _ hk => (updF_out (fun q => hk q.1)).trans (congrArg AV.bit (mix_ne hk))) (congrArg AV.bit (show false = mixF (hldF now ack y l) (fun _ => false) (i + 1) i by rw [mix_at, hF])), ⟨rfl, rfl, eN, rfl, rfl, fun a b ha hb => Or.inr ?_⟩, trivial⟩
            · (repeat' first | exact trivial | exact ⟨by kernel_rfl, by kernel_rfl⟩ | exact Or.inr (by kernel_rfl) | (show _ = _; kernel_rfl) | refine ⟨?_, ?_⟩)
            · (repeat' first | exact trivial | exact ⟨by kernel_rfl, by kernel_rfl⟩ | exact Or.inr (by kernel_rfl) | (show _ = _; kernel_rfl) | refine ⟨?_, ?_⟩)
            · (repeat' first | exact trivial | exact ⟨by kernel_rfl, by kernel_rfl⟩ | exact Or.inr (by kernel_rfl) | (show _ = _; kernel_rfl) | refine ⟨?_, ?_⟩)
            · exact rfl
            · exact rfl
            · exact renI rfl
            · exact renI rfl
            · exact congrArg (AV.own 203) eN.symm
            · show evnF (lgA k (ccF now x) ea (fun i => i) (i + 1)) (lgA k (ccF now x) eb (fun _ => nTk tk) (i + 1)) a b = _
              rw [eA, eB]
          · have h6 : ack = false := h6
            have hF : hldF now ack y l i = y i := by rw [hldF, if_neg (by rw [h4]; decide), if_neg (by rw [h6]; decide)]
            refine ⟨⟨i + 1, by omega⟩, by show n - (i + 1) < n - i; omega, ?_⟩
            have eN : lgN k (ccF now x) (i + 1) = lgN k (ccF now x) i := if_neg (by rw [hc]; decide)
            have eA : lgA k (ccF now x) ea (fun i => i) (i + 1) = lgA k (ccF now x) ea (fun i => i) i := if_neg (by rw [hc]; decide)
            have eB : lgA k (ccF now x) eb (fun _ => nTk tk) (i + 1) = lgA k (ccF now x) eb (fun _ => nTk tk) i := if_neg (by rw [hc]; decide)
            refine wk_of [(4, some 4), (5, some 5), (6, some 6), (7, some 7), (201, some 201), (202, some 202), (203, some 203)] rfl ⟨⟨rfl, rfl⟩, rfl, rfl, rfl, rfl, ⟨wrS (i := i) (by omega), rfl⟩, trivial⟩ ⟨RowLe.fin rfl rfl rfl rfl rfl ?_, RowLe.fin rfl rfl rfl rfl rfl ?_, RowLe.fin rfl rfl rfl rfl rfl ?_, RowLe.fin rfl rfl rfl rfl rfl ⟨trivial, ⟨⟨⟨⟨⟨trivial, ?_⟩, ?_⟩, ?_⟩, ?_⟩, ?_⟩⟩, RowLe.upd (i := i) (fun k => .bit (mixF now (fun _ => false) (i + 1) k)) rfl rfl rfl (fun k _ hk => congrArg AV.bit (mix_ne hk)) (congrArg AV.bit mix_at.symm), RowLe.upd (i := i) (fun k => .bit (mixF (hldF now ack y l) (fun _ => false) (i + 1) k)) rfl rfl rfl (fun k _ hk => congrArg AV.bit (mix_ne hk)) (congrArg AV.bit (show true = mixF (hldF now ack y l) (fun _ => false) (i + 1) i by rw [mix_at, hF, h5])), ⟨rfl, rfl, eN, rfl, rfl, fun a b ha hb => Or.inr ?_⟩, trivial⟩
            · (repeat' first | exact trivial | exact ⟨by kernel_rfl, by kernel_rfl⟩ | exact Or.inr (by kernel_rfl) | (show _ = _; kernel_rfl) | refine ⟨?_, ?_⟩)
            · (repeat' first | exact trivial | exact ⟨by kernel_rfl, by kernel_rfl⟩ | exact Or.inr (by kernel_rfl) | (show _ = _; kernel_rfl) | refine ⟨?_, ?_⟩)
            · (repeat' first | exact trivial | exact ⟨by kernel_rfl, by kernel_rfl⟩ | exact Or.inr (by kernel_rfl) | (show _ = _; kernel_rfl) | refine ⟨?_, ?_⟩)
            · exact rfl
            · exact rfl
            · exact renI rfl
            · exact renI rfl
            · exact congrArg (AV.own 203) eN.symm
            · show evnF (lgA k (ccF now x) ea (fun i => i) (i + 1)) (lgA k (ccF now x) eb (fun _ => nTk tk) (i + 1)) a b = _
              rw [eA, eB]
        · have h5 : y i = false := h5
          refine Chk.mk ix ?_
          refine Brn.mk (fun h8 => absurd h4 (by rw [show now i = true from h8]; decide)) (fun _ => ?_)
          refine Chk.mk ix (Chk.mk (by kernel_rfl) ?_)
          refine Brn.mk (fun h6 => ?_) (fun h6 => ?_)
          · have h6 : ack = true := h6
            refine Chk.mk ix ?_
            refine Brn.mk (fun _ => ?_) (fun h7 => absurd (show (!now i) = false from h7) (by rw [h4]; decide))
            refine Chk.mk ix ?_
            have hF : hldF now ack y l i = false := by rw [hldF, if_neg (by rw [h4]; decide), if_pos h6]
            refine ⟨⟨i + 1, by omega⟩, by show n - (i + 1) < n - i; omega, ?_⟩
            have eN : lgN k (ccF now x) (i + 1) = lgN k (ccF now x) i := if_neg (by rw [hc]; decide)
            have eA : lgA k (ccF now x) ea (fun i => i) (i + 1) = lgA k (ccF now x) ea (fun i => i) i := if_neg (by rw [hc]; decide)
            have eB : lgA k (ccF now x) eb (fun _ => nTk tk) (i + 1) = lgA k (ccF now x) eb (fun _ => nTk tk) i := if_neg (by rw [hc]; decide)
            refine wk_of [(4, some 4), (5, some 5), (6, some 6), (7, some 7), (201, some 201), (202, some 202), (203, some 203)] rfl ⟨⟨rfl, rfl⟩, rfl, rfl, rfl, rfl, ⟨wrS (i := i) (by omega), rfl⟩, trivial⟩ ⟨RowLe.fin rfl rfl rfl rfl rfl ?_, RowLe.fin rfl rfl rfl rfl rfl ?_, RowLe.fin rfl rfl rfl rfl rfl ?_, RowLe.fin rfl rfl rfl rfl rfl ⟨trivial, ⟨⟨⟨⟨⟨trivial, ?_⟩, ?_⟩, ?_⟩, ?_⟩, ?_⟩⟩, RowLe.upd (i := i) (fun k => .bit (mixF now (fun _ => false) (i + 1) k)) rfl rfl rfl (fun k _ hk => congrArg AV.bit (mix_ne hk)) (congrArg AV.bit mix_at.symm), RowLe.upd (i := i) (fun k => .bit (mixF (hldF now ack y l) (fun _ => false) (i + 1) k)) rfl rfl rfl (fun k _ hk => (updF_out (fun q => hk q.1)).trans (congrArg AV.bit (mix_ne hk))) (congrArg AV.bit (show false = mixF (hldF now ack y l) (fun _ => false) (i + 1) i by rw [mix_at, hF])), ⟨rfl, rfl, eN, rfl, rfl, fun a b ha hb => Or.inr ?_⟩, trivial⟩
            · (repeat' first | exact trivial | exact ⟨by kernel_rfl, by kernel_rfl⟩ | exact Or.inr (by kernel_rfl) | (show _ = _; kernel_rfl) | refine ⟨?_, ?_⟩)
            · (repeat' first | exact trivial | exact ⟨by kernel_rfl, by kernel_rfl⟩ | exact Or.inr (by kernel_rfl) | (show _ = _; kernel_rfl) | refine ⟨?_, ?_⟩)
            · (repeat' first | exact trivial | exact ⟨by kernel_rfl, by kernel_rfl⟩ | exact Or.inr (by kernel_rfl) | (show _ = _; kernel_rfl) | refine ⟨?_, ?_⟩)
            · exact rfl
            · exact rfl
            · exact renI rfl
            · exact renI rfl
            · exact congrArg (AV.own 203) eN.symm
            · show evnF (lgA k (ccF now x) ea (fun i => i) (i + 1)) (lgA k (ccF now x) eb (fun _ => nTk tk) (i + 1)) a b = _
              rw [eA, eB]
          · have h6 : ack = false := h6
            have hF : hldF now ack y l i = y i := by rw [hldF, if_neg (by rw [h4]; decide), if_neg (by rw [h6]; decide)]
            refine ⟨⟨i + 1, by omega⟩, by show n - (i + 1) < n - i; omega, ?_⟩
            have eN : lgN k (ccF now x) (i + 1) = lgN k (ccF now x) i := if_neg (by rw [hc]; decide)
            have eA : lgA k (ccF now x) ea (fun i => i) (i + 1) = lgA k (ccF now x) ea (fun i => i) i := if_neg (by rw [hc]; decide)
            have eB : lgA k (ccF now x) eb (fun _ => nTk tk) (i + 1) = lgA k (ccF now x) eb (fun _ => nTk tk) i := if_neg (by rw [hc]; decide)
            refine wk_of [(4, some 4), (5, some 5), (6, some 6), (7, some 7), (201, some 201), (202, some 202), (203, some 203)] rfl ⟨⟨rfl, rfl⟩, rfl, rfl, rfl, rfl, ⟨wrS (i := i) (by omega), rfl⟩, trivial⟩ ⟨RowLe.fin rfl rfl rfl rfl rfl ?_, RowLe.fin rfl rfl rfl rfl rfl ?_, RowLe.fin rfl rfl rfl rfl rfl ?_, RowLe.fin rfl rfl rfl rfl rfl ⟨trivial, ⟨⟨⟨⟨⟨trivial, ?_⟩, ?_⟩, ?_⟩, ?_⟩, ?_⟩⟩, RowLe.upd (i := i) (fun k => .bit (mixF now (fun _ => false) (i + 1) k)) rfl rfl rfl (fun k _ hk => congrArg AV.bit (mix_ne hk)) (congrArg AV.bit mix_at.symm), RowLe.upd (i := i) (fun k => .bit (mixF (hldF now ack y l) (fun _ => false) (i + 1) k)) rfl rfl rfl (fun k _ hk => congrArg AV.bit (mix_ne hk)) (congrArg AV.bit (show false = mixF (hldF now ack y l) (fun _ => false) (i + 1) i by rw [mix_at, hF, h5])), ⟨rfl, rfl, eN, rfl, rfl, fun a b ha hb => Or.inr ?_⟩, trivial⟩
            · (repeat' first | exact trivial | exact ⟨by kernel_rfl, by kernel_rfl⟩ | exact Or.inr (by kernel_rfl) | (show _ = _; kernel_rfl) | refine ⟨?_, ?_⟩)
            · (repeat' first | exact trivial | exact ⟨by kernel_rfl, by kernel_rfl⟩ | exact Or.inr (by kernel_rfl) | (show _ = _; kernel_rfl) | refine ⟨?_, ?_⟩)
            · (repeat' first | exact trivial | exact ⟨by kernel_rfl, by kernel_rfl⟩ | exact Or.inr (by kernel_rfl) | (show _ = _; kernel_rfl) | refine ⟨?_, ?_⟩)
            · exact rfl
            · exact rfl
            · exact renI rfl
            · exact renI rfl
            · exact congrArg (AV.own 203) eN.symm
            · show evnF (lgA k (ccF now x) ea (fun i => i) (i + 1)) (lgA k (ccF now x) eb (fun _ => nTk tk) (i + 1)) a b = _
              rw [eA, eB]
    · have h3 : ¬ (i : Int) < n := of_decide_eq_false h3
      have hin : i = n := by omega
      subst hin
      have W : wst r (fun j => mixF now (fun _ => false) i j || mixF (hldF now ack y l) (fun _ => false) i j) i = wst r (fun i => now i || hldF now ack y l i) i := wst_congr fun j hj => by
        show (mixF now (fun _ => false) i j || mixF (hldF now ack y l) (fun _ => false) i j) = (now j || hldF now ack y l j)
        rw [mixF, if_pos hj, mixF, if_pos hj]
      have mx : ∀ j, j < i → bitF (mixF now (fun _ => false) i) j 0 = .bit (now j) := fun j hj => by
        show AV.bit (mixF now (fun _ => false) i j) = _
        rw [mixF, if_pos hj]
      have my : ∀ j, j < i → bitF (mixF (hldF now ack y l) (fun _ => false) i) j 0 = .bit (hldF now ack y l j) := fun j hj => by
        show AV.bit (mixF (hldF now ack y l) (fun _ => false) i j) = _
        rw [mixF, if_pos hj]
      have hN := kb i (Nat.le_refl _)
      have ew : wr ((lgN k (ccF now x) i : Int) - 16) = (lgN k (ccF now x) i : Int) - 16 := wr_id (by omega) (by omega)
      refine Brn.mk (fun h5 => ?_) (fun h5 => ?_)
      · have h5 : (16 : Int) < (lgN k (ccF now x) i : Int) := of_decide_eq_true h5
        have hk : lgN k (ccF now x) i - (wr ((lgN k (ccF now x) i : Int) - 16)).toNat = 16 := by rw [ew]; omega
        have hk1 : lgN k (ccF now x) i - (wr ((lgN k (ccF now x) i : Int) - 16)).toNat ≤ 1000 := by omega
        refine Chk.mk ⟨(show 0 ≤ wr ((lgN k (ccF now x) i : Int) - 16) by omega), (show wr ((lgN k (ccF now x) i : Int) - 16) ≤ (lgN k (ccF now x) i : Int) by omega)⟩ ?_
        have hl6 : ∀ a b, a < lgN k (ccF now x) i - (wr ((lgN k (ccF now x) i : Int) - 16)).toNat → b < 2 → evnF (fun j => lgA k (ccF now x) ea (fun i => i) i ((wr ((lgN k (ccF now x) i : Int) - 16)).toNat + j)) (fun j => lgA k (ccF now x) eb (fun _ => nTk tk) i ((wr ((lgN k (ccF now x) i : Int) - 16)).toNat + j)) a b =
            evnF (lgD (lgN k (ccF now x) i) (lgA k (ccF now x) ea (fun i => i) i)) (lgD (lgN k (ccF now x) i) (lgA k (ccF now x) eb (fun _ => nTk tk) i)) a b := fun a b _ _ => by
          have e : (wr ((lgN k (ccF now x) i : Int) - 16)).toNat = lgN k (ccF now x) i - 16 := by rw [ew]; omega
          rw [e]
          unfold evnF lgD
          rw [if_pos (by omega), if_pos (by omega)]
        refine Chk.mk ⟨⟨isR_mk, hn⟩, ⟨isB_mk, isB_mk, isE_mk, hn, hn, hk1⟩, Nat.le_refl _, Nat.le_refl _⟩ ?_
        refine Brn.mk (fun g1 => ?_) (fun g1 => ?_)
        · have g1 : still = true := g1
          refine Brn.mk (fun g2 => ?_) (fun g2 => ?_)
          · have g2 : wst r (fun j => mixF now (fun _ => false) i j || mixF (hldF now ack y l) (fun _ => false) i j) i = 2 := of_decide_eq_true g2
            rw [W] at g2
            refine Brn.mk (fun _ => AVle.of_agg (rst_le mx my ((rea_a g1 (.inl g2)).symm) rfl (hk.trans (if_pos (by omega)).symm) hl6)) (fun g3 => absurd (show 2 ≤ wst r (fun j => mixF now (fun _ => false) i j || mixF (hldF now ack y l) (fun _ => false) i j) i by rw [W]; omega) (of_decide_eq_false g3))
          · have g2 : ¬ wst r (fun j => mixF now (fun _ => false) i j || mixF (hldF now ack y l) (fun _ => false) i j) i = 2 := of_decide_eq_false g2
            rw [W] at g2
            refine Brn.mk (fun g3 => ?_) (fun g3 => ?_)
            · have g3 : wst r (fun j => mixF now (fun _ => false) i j || mixF (hldF now ack y l) (fun _ => false) i j) i = 3 := of_decide_eq_true g3
              rw [W] at g3
              refine Brn.mk (fun _ => AVle.of_agg (rst_le mx my ((rea_a g1 (.inr g3)).symm) rfl (hk.trans (if_pos (by omega)).symm) hl6)) (fun g4 => absurd (show 2 ≤ wst r (fun j => mixF now (fun _ => false) i j || mixF (hldF now ack y l) (fun _ => false) i j) i by rw [W]; omega) (of_decide_eq_false g4))
            · have g3 : ¬ wst r (fun j => mixF now (fun _ => false) i j || mixF (hldF now ack y l) (fun _ => false) i j) i = 3 := of_decide_eq_false g3
              rw [W] at g3
              refine Brn.mk (fun g4 => ?_) (fun g4 => ?_)
              · have g4 : 2 ≤ wst r (fun j => mixF now (fun _ => false) i j || mixF (hldF now ack y l) (fun _ => false) i j) i := of_decide_eq_true g4
                rw [W] at g4
                exact AVle.of_agg (rst_le mx my ((congrArg (fun w => max w re) W).trans (rea_b (fun q => by omega) g4).symm) rfl (hk.trans (if_pos (by omega)).symm) hl6)
              · have g4 : ¬ 2 ≤ wst r (fun j => mixF now (fun _ => false) i j || mixF (hldF now ack y l) (fun _ => false) i j) i := of_decide_eq_false g4
                rw [W] at g4
                exact AVle.of_agg (rst_le mx my (W.trans (rea_c g4).symm) rfl (hk.trans (if_pos (by omega)).symm) hl6)
        · have g1 : still = false := g1
          refine Brn.mk (fun g4 => ?_) (fun g4 => ?_)
          · have g4 : 2 ≤ wst r (fun j => mixF now (fun _ => false) i j || mixF (hldF now ack y l) (fun _ => false) i j) i := of_decide_eq_true g4
            rw [W] at g4
            exact AVle.of_agg (rst_le mx my ((congrArg (fun w => max w re) W).trans (rea_b (fun q => by rw [g1] at q; cases q.1) g4).symm) rfl (hk.trans (if_pos (by omega)).symm) hl6)
          · have g4 : ¬ 2 ≤ wst r (fun j => mixF now (fun _ => false) i j || mixF (hldF now ack y l) (fun _ => false) i j) i := of_decide_eq_false g4
            rw [W] at g4
            exact AVle.of_agg (rst_le mx my (W.trans (rea_c g4).symm) rfl (hk.trans (if_pos (by omega)).symm) hl6)
      · have h5 : ¬ (16 : Int) < (lgN k (ccF now x) i : Int) := of_decide_eq_false h5
        have hk1 : lgN k (ccF now x) i ≤ 1000 := hN
        have hl7 : ∀ a b, a < lgN k (ccF now x) i → b < 2 → evnF (lgA k (ccF now x) ea (fun i => i) i) (lgA k (ccF now x) eb (fun _ => nTk tk) i) a b =
            evnF (lgD (lgN k (ccF now x) i) (lgA k (ccF now x) ea (fun i => i) i)) (lgD (lgN k (ccF now x) i) (lgA k (ccF now x) eb (fun _ => nTk tk) i)) a b := fun a b _ _ => by
          unfold evnF lgD
          rw [if_neg (by omega), if_neg (by omega)]
        refine Chk.mk ⟨⟨isR_mk, hn⟩, ⟨isB_mk, isB_mk, isE_mk, hn, hn, hk1⟩, Nat.le_refl _, Nat.le_refl _⟩ ?_
        refine Brn.mk (fun g1 => ?_) (fun g1 => ?_)
        · have g1 : still = true := g1
          refine Brn.mk (fun g2 => ?_) (fun g2 => ?_)
          · have g2 : wst r (fun j => mixF now (fun _ => false) i j || mixF (hldF now ack y l) (fun _ => false) i j) i = 2 := of_decide_eq_true g2
            rw [W] at g2
            refine Brn.mk (fun _ => AVle.of_agg (rst_le mx my ((rea_a g1 (.inl g2)).symm) rfl (if_neg (by omega)).symm hl7)) (fun g3 => absurd (show 2 ≤ wst r (fun j => mixF now (fun _ => false) i j || mixF (hldF now ack y l) (fun _ => false) i j) i by rw [W]; omega) (of_decide_eq_false g3))
          · have g2 : ¬ wst r (fun j => mixF now (fun _ => false) i j || mixF (hldF now ack y l) (fun _ => false) i j) i = 2 := of_decide_eq_false g2
            rw [W] at g2
            refine Brn.mk (fun g3 => ?_) (fun g3 => ?_)
            · have g3 : wst r (fun j => mixF now (fun _ => false) i j || mixF (hldF now ack y l) (fun _ => false) i j) i = 3 := of_decide_eq_true g3
              rw [W] at g3
              refine Brn.mk (fun _ => AVle.of_agg (rst_le mx my ((rea_a g1 (.inr g3)).symm) rfl (if_neg (by omega)).symm hl7)) (fun g4 => absurd (show 2 ≤ wst r (fun j => mixF now (fun _ => false) i j || mixF (hldF now ack y l) (fun _ => false) i j) i by rw [W]; omega) (of_decide_eq_false g4))
            · have g3 : ¬ wst r (fun j => mixF now (fun _ => false) i j || mixF (hldF now ack y l) (fun _ => false) i j) i = 3 := of_decide_eq_false g3
              rw [W] at g3
              refine Brn.mk (fun g4 => ?_) (fun g4 => ?_)
              · have g4 : 2 ≤ wst r (fun j => mixF now (fun _ => false) i j || mixF (hldF now ack y l) (fun _ => false) i j) i := of_decide_eq_true g4
                rw [W] at g4
                exact AVle.of_agg (rst_le mx my ((congrArg (fun w => max w re) W).trans (rea_b (fun q => by omega) g4).symm) rfl (if_neg (by omega)).symm hl7)
              · have g4 : ¬ 2 ≤ wst r (fun j => mixF now (fun _ => false) i j || mixF (hldF now ack y l) (fun _ => false) i j) i := of_decide_eq_false g4
                rw [W] at g4
                exact AVle.of_agg (rst_le mx my (W.trans (rea_c g4).symm) rfl (if_neg (by omega)).symm hl7)
        · have g1 : still = false := g1
          refine Brn.mk (fun g4 => ?_) (fun g4 => ?_)
          · have g4 : 2 ≤ wst r (fun j => mixF now (fun _ => false) i j || mixF (hldF now ack y l) (fun _ => false) i j) i := of_decide_eq_true g4
            rw [W] at g4
            exact AVle.of_agg (rst_le mx my ((congrArg (fun w => max w re) W).trans (rea_b (fun q => by rw [g1] at q; cases q.1) g4).symm) rfl (if_neg (by omega)).symm hl7)
          · have g4 : ¬ 2 ≤ wst r (fun j => mixF now (fun _ => false) i j || mixF (hldF now ack y l) (fun _ => false) i j) i := of_decide_eq_false g4
            rw [W] at g4
            exact AVle.of_agg (rst_le mx my (W.trans (rea_c g4).symm) rfl (if_neg (by omega)).symm hl7)
  · trivial
end
end Go.Proofs.Ytiodcjbpfhfmbaa.Img
