/- The simulation of tasks: what the code computes. Conditions: none. -/
import Derived.Test.YtbhbjmneglkgnaaTop1
import Derived.Test.YtbhbjmneglkgnaaTskA
import Derived.Test.YtbhbjmneglkgnaaAiMore
import Derived.Test.YtbhbjmneglkgnaaAiMore2
import Derived.Test.YtbhbjmneglkgnaaAiThaw
namespace Go.Proofs.Ytbhbjmneglkgnaa.Img
open Go Go.Proofs.Ytbhbjmneglkgnaa.AI Go.Proofs
noncomputable section
set_option maxRecDepth 100000
def jobF (s : Sim) : Nat → Nat → AV := fun i j => nth [.int .i64 (s.jt i), .int .i64 (s.jr i), .int .i64 (s.js i), .int .i64 (s.jf i)] j
def tskF (x : Tsk) : Nat → Nat → AV := fun i j => nth [.int .i64 (x.p i), .int .i64 (x.o i), .int .i64 (x.c i), .int .i64 (x.d i), .int .i64 (x.q i)] j
def qv (s : Sim) (i : Nat) : Nat → Nat → AV := fun k _ => .int .i64 (s.qf i k)
def linF (x : Tsk) (s : Sim) : Nat → Nat → AV := fun i j => nth [.int .i64 (x.p i), .int .i64 (x.o i), .int .i64 (x.c i), .int .i64 (x.d i), .int .i64 (x.q i), .qs (300 + i) (s.qn i) (qv s i), .int .i64 (s.lf i)] j
def linZ : Nat → Nat → AV := fun _ j => nth [.int .i64 0, .int .i64 0, .int .i64 0, .int .i64 0, .int .i64 0, .nilS, .int .i64 0] j
def lin1 (x : Tsk) (i : Nat) : Nat → Nat → AV := fun a j => match Nat.blt a i with
  | true => nth [.int .i64 (x.p a), .int .i64 (x.o a), .int .i64 (x.c a), .int .i64 (x.d a), .int .i64 (x.q a), .nilS, .int .i64 0] j
  | false => linZ a j
def badF : Nat → Nat → AV := fun _ _ => .bad
def qr (m : Nat) : Row := ⟨3, 1, m, fun _ _ => .bad, 1, false⟩
def qRows (e : Nat → Nat) : List (Nat × Row) := [(300, qr (e 0)), (301, qr (e 1)), (302, qr (e 2)), (303, qr (e 3)), (304, qr (e 4)), (305, qr (e 5)), (306, qr (e 6)), (307, qr (e 7))]
def qNone : List (Nat × Option Nat) := [(300, none), (301, none), (302, none), (303, none), (304, none), (305, none), (306, none), (307, none)]
def qSome : List (Nat × Option Nat) := [(300, some 300), (301, some 301), (302, some 302), (303, some 303), (304, some 304), (305, some 305), (306, some 306), (307, some 307)]
def jR (n : Nat) (s : Sim) : Row := ⟨38, 4, n, jobF s, 0, false⟩
def oR (t : Nat) : Row := ⟨3, 1, t, badF, 1, false⟩
def lR (n : Nat) (f : Nat → Nat → AV) (b : Bool) : Row := ⟨109, 7, n, f, 0, b⟩
/-- The state at the head of the loop over the tasks' copies. -/
def st1 (x : Tsk) (n : Nat) (U : Int) (i : Nat) : St := mkSt [(0, .sl 5 n (tskF x)), (1, .int .i64 U), (6, .own 202 0), (7, .own 200 0), (8, .own 201 n), (20, .sl 5 n (tskF x)), (21, .int .i64 n), (22, .int .i64 i)]
  [(200, jR 0 sim0), (202, oR 0), (201, lR n (lin1 x i) false)]
def st2 (x : Tsk) (n : Nat) (U : Int) (t : Nat) (e : Nat → Nat) (s : Sim) : St := mkSt [(6, .own 202 t), (7, .own 200 s.jn), (8, .own 201 n), (33, .int .i64 U), (34, .int .i64 t)]
  ([(200, jR s.jn s), (202, oR t), (201, lR n (linF x s) true)] ++ qRows e)
def tv3 (n : Nat) (U : Int) (t i : Nat) (r : Sim × Int) : List (Nat × AV) := [(6, .own 202 t), (7, .own 200 r.1.jn), (8, .own 201 n), (11, .int .i64 t), (12, .int .i64 r.2), (33, .int .i64 U), (34, .int .i64 t), (38, .int .i64 n), (39, .int .i64 i)]
def st3 (x : Tsk) (n : Nat) (U : Int) (t i : Nat) (e : Nat → Nat) (r : Sim × Int) : St := mkSt (tv3 n U t i r)
  ([(200, jR r.1.jn r.1), (202, oR t), (201, lR n (linF x r.1) true)] ++ qRows e)
def relI : InlT := evInl (envI TE tabs [] [] [11]) Try.f38
theorem relE : InlEnt Try.prog TE 38 relI := inl_of tabsOK specOK_nil inlOK_nil mixed Try.func38 (by kernel_rfl) (by kernel_rfl)
def Tsks (n : Nat) (f : Nat → Nat → AV) (x : Tsk) : Prop := ∀ i, i < n → AllLt 5 fun j => f i j = tskF x i j
structure SimA (s n : Nat) (f : Nat → Nat → AV) (x : Tsk) (U : Int) : Prop where
  s : s = 5
  t : Tsks n f x
  ok : TskOK x n
  u0 : 0 ≤ U
  u1 : U ≤ 65536
def tskO (f : Nat → Nat → AV) : Tsk := ⟨fun i => asI (f i 0), fun i => asI (f i 1), fun i => asI (f i 2), fun i => asI (f i 3), fun i => asI (f i 4)⟩
theorem Tsks.le {s n : Nat} {f : Nat → Nat → AV} {x : Tsk} (h : Tsks n f x) (hs : s = 5) : AVle2 TE (.sl s n f) (.sl 5 n (tskF x)) := by
  subst hs
  exact le2_sl (.sl rfl fun i j hi hj => .of_eq (allLt (h i hi) j hj))
def sSim : Sp
  | [.sl s n f, .int .i64 U] => .pre (SimA s n f (tskO f) U) (.tup [.bad, .sl 4 (simS (tskO f) n U.toNat).jn (jobF (simS (tskO f) n U.toNat))])
  | _ => .no
theorem beqF {a b : Nat} (h : a ≠ b) : Nat.beq a b = false := beq_ne h
theorem bltT {a b : Nat} (h : a < b) : Nat.blt a b = true := by simpa using h
theorem bltF {a b : Nat} (h : ¬ a < b) : Nat.blt a b = false := by
  cases hb : Nat.blt a b
  · rfl
  · exact absurd (by simpa using hb) h
theorem lookR_skip {k q : Nat} {r : Row} {l : List (Nat × Row)} (h : k ≠ q) : lookR ((k, r) :: l) q = lookR l q := by simp [lookR, beq_ne h]
theorem lookR_q {e : Nat → Nat} {i : Nat} (hi : i < 8) : lookR (qRows e) (300 + i) = some (qr (e i)) := by
  have : AllLt 8 fun i => lookR (qRows e) (300 + i) = some (qr (e i)) := ⟨⟨⟨⟨⟨⟨⟨⟨trivial, rfl⟩, rfl⟩, rfl⟩, rfl⟩, rfl⟩, rfl⟩, rfl⟩, rfl⟩
  exact allLt this i hi
theorem lookO_N {i : Nat} (hi : i < 8) : lookO qNone (300 + i) = some none := by
  have : AllLt 8 fun i => lookO qNone (300 + i) = some none := ⟨⟨⟨⟨⟨⟨⟨⟨trivial, rfl⟩, rfl⟩, rfl⟩, rfl⟩, rfl⟩, rfl⟩, rfl⟩, rfl⟩
  exact allLt this i hi
theorem lookO_S {i : Nat} (hi : i < 8) : lookO qSome (300 + i) = some (some (300 + i)) := by
  have : AllLt 8 fun i => lookO qSome (300 + i) = some (some (300 + i)) := ⟨⟨⟨⟨⟨⟨⟨⟨trivial, rfl⟩, rfl⟩, rfl⟩, rfl⟩, rfl⟩, rfl⟩, rfl⟩, rfl⟩
  exact allLt this i hi
theorem lookO_skip {k q : Nat} {r : Option Nat} {l : List (Nat × Option Nat)} (h : k ≠ q) : lookO ((k, r) :: l) q = lookO l q := by simp [lookO, beq_ne h]
theorem linF5 (x : Tsk) (s : Sim) (i : Nat) : linF x s i 5 = .qs (300 + i) (s.qn i) (qv s i) := rfl
/-- A cell of the lines under the rows' names. -/
theorem ren_lin {s : Nat → Option (Option Nat)} {x : Tsk} {m : Sim} {i j : Nat} {v : AV} (hj : j < 7) (h5 : j = 5 → Ren s v (.qs (300 + i) (m.qn i) (qv m i))) (h : j ≠ 5 → v = linF x m i j) : Ren s v (linF x m i j) := by
  by_cases e : j = 5
  · subst e; exact h5 rfl
  · rw [h e]
    have : AllLt 7 fun j => j ≠ 5 → Ren s (linF x m i j) (linF x m i j) := ⟨⟨⟨⟨⟨⟨⟨trivial, fun _ => ⟨rfl, rfl⟩⟩, fun _ => ⟨rfl, rfl⟩⟩, fun _ => ⟨rfl, rfl⟩⟩, fun _ => ⟨rfl, rfl⟩⟩, fun _ => ⟨rfl, rfl⟩⟩, fun h => absurd rfl h⟩, fun _ => ⟨rfl, rfl⟩⟩
    exact allLt this j hj e
theorem RowLe.q {s : Nat → Option (Option Nat)} {row : Row} {m : Nat} (h : row = qr m) : RowLe s row (qr m) := by
  subst h
  exact ⟨rfl, rfl, rfl, rfl, rfl, fun i j _ _ => .inr rfl⟩
/-- The queues' rows keep their names. -/
def GoodS (s : Nat → Option (Option Nat)) : Prop := ∀ i, i < 8 → s (300 + i) = some (some (300 + i))
theorem ren_q {s : Nat → Option (Option Nat)} (hs : GoodS s) {i n : Nat} {f f' : Nat → Nat → AV} (hi : i < 8) (h : ∀ k, k < n → f k 0 = f' k 0) : Ren s (.qs (300 + i) n f) (.qs (300 + i) n f') := by
  simp only [Ren, hs i hi]
  exact ⟨f, rfl, h⟩
theorem ren_self {s : Nat → Option (Option Nat)} (hs : GoodS s) {x : Tsk} {m : Sim} {i j : Nat} {v : AV} (hj : j < 7) (hi : i < 8) (h : v = linF x m i j) : Ren s v (linF x m i j) := by
  refine ren_lin hj (fun e => ?_) fun _ => h
  rw [h]
  subst e
  exact ren_q hs hi fun _ _ => rfl
def small : List (Nat × Option Nat) → List (Nat × Row) → Bool
  | [], [] => true
  | (a, _) :: l, (b, _) :: r => Nat.blt a 300 && Nat.blt b 300 && small l r
  | _, _ => false
theorem lookR_small {ss : List (Nat × Option Nat)} {l : List (Nat × Row)} {e : Nat → Nat} {i : Nat} (h : small ss l = true) (hi : i < 8) : lookR (l ++ qRows e) (300 + i) = some (qr (e i)) := by
  induction l generalizing ss with
  | nil => exact lookR_q hi
  | cons p l ih =>
    obtain ⟨b, r⟩ := p
    cases ss with
    | nil => simp [small] at h
    | cons q ss =>
      obtain ⟨a, o⟩ := q
      simp only [small, Bool.and_eq_true] at h
      have hb : b < 300 := by simpa using h.1.2
      rw [List.cons_append, lookR_skip (by omega)]
      exact ih h.2
theorem lookO_small {ss : List (Nat × Option Nat)} {l : List (Nat × Row)} {i : Nat} (h : small ss l = true) (hi : i < 8) : lookO (ss ++ qSome) (300 + i) = some (some (300 + i)) := by
  induction ss generalizing l with
  | nil => exact lookO_S hi
  | cons p ss ih =>
    obtain ⟨b, r⟩ := p
    cases l with
    | nil => simp [small] at h
    | cons q l =>
      obtain ⟨a, o⟩ := q
      simp only [small, Bool.and_eq_true] at h
      have hb : b < 300 := by simpa using h.1.1
      rw [List.cons_append, lookO_skip (by omega)]
      exact ih h.2
theorem goodS {ss : List (Nat × Option Nat)} {l : List (Nat × Row)} {e : Nat → Nat} (h : small ss l = true) : GoodS (srcE (ss ++ qSome) (l ++ qRows e)) := fun i hi => by
  simp only [srcE, lookR_small h hi, lookO_small h hi]
def src0 : List (Nat × Option Nat) := [(200, some 200), (202, some 202), (201, some 201)]
def src1 : List (Nat × Option Nat) := [(200, some 200), (202, some 202), (201, some 201), (10, some 10)]
def src2 : List (Nat × Option Nat) := [(200, some 200), (202, some 202), (201, some 201), (76, some 76)]
def src3 : List (Nat × Option Nat) := [(200, some 77), (202, some 202), (201, some 201)]
def linB (x : Tsk) (s : Sim) (k : Nat) : Nat → Nat → AV := fun a b => match Nat.beq b 5, Nat.beq a k with
  | true, true => .bad
  | _, _ => linF x s a b
theorem ren_linB {s : Nat → Option (Option Nat)} (hs : GoodS s) {x : Tsk} {m : Sim} {k i j : Nat} (hj : j < 7) (hi : i < 8) : Ren s (linF x m i j) (linB x m k i j) := by
  unfold linB
  split
  · exact trivial
  · exact ren_self hs hj hi rfl
theorem bxN_linB {x : Tsk} {m : Sim} {k n : Nat} (i j : Nat) (_ : i < n) (hj : j < 7) : tOK (linB x m k i j) = true ∧ (tId (linB x m k i j)).any (Nat.beq (300 + k)) = false := by
  have : AllLt 7 fun j => tOK (linB x m k i j) = true ∧ (tId (linB x m k i j)).any (Nat.beq (300 + k)) = false := by
    refine ⟨⟨⟨⟨⟨⟨⟨trivial, rfl, rfl⟩, rfl, rfl⟩, rfl, rfl⟩, rfl, rfl⟩, rfl, rfl⟩, ?_⟩, rfl, rfl⟩
    show tOK (linB x m k i 5) = true ∧ (tId (linB x m k i 5)).any (Nat.beq (300 + k)) = false
    by_cases e : i = k
    · have : Nat.beq i k = true := by simp [e]
      have h5 : linB x m k i 5 = .bad := by
        unfold linB
        rw [this]
      rw [h5]
      exact ⟨rfl, rfl⟩
    · have h5 : linB x m k i 5 = .qs (300 + i) (m.qn i) (qv m i) := by
        unfold linB
        rw [beqF e]; rfl
      rw [h5]
      refine ⟨rfl, ?_⟩
      have : Nat.beq (300 + k) (300 + i) = false := beqF (by omega)
      simp [tId, this]
  exact allLt this j hj
theorem lookR_big {l : List (Nat × Row)} {e e' : Nat → Nat} {q k : Nat} (hq : q ≠ 300 + k) (he : ∀ j, j ≠ k → e' j = e j) : lookR (l ++ qRows e') q = lookR (l ++ qRows e) q := by
  have h0 : lookR (qRows e') q = lookR (qRows e) q := by
    by_cases h8 : 300 ≤ q ∧ q < 308
    · obtain ⟨j, rfl⟩ : ∃ j, q = 300 + j := ⟨q - 300, by omega⟩
      rw [lookR_q (by omega), lookR_q (by omega), he j (by omega)]
    · have no : ∀ e : Nat → Nat, lookR (qRows e) q = none := fun e => by
        unfold qRows
        rw [lookR_skip (by omega), lookR_skip (by omega), lookR_skip (by omega), lookR_skip (by omega), lookR_skip (by omega), lookR_skip (by omega), lookR_skip (by omega), lookR_skip (by omega)]
        rfl
      rw [no, no]
  induction l with
  | nil => exact h0
  | cons p l ih =>
    obtain ⟨b, r⟩ := p
    simp only [List.cons_append, lookR]
    split
    · rfl
    · exact ih
theorem all300 {l : List Nat} (h : (l.all fun q => Nat.blt q 300) = true) : ∀ q, q ∈ l → q < 300 := by
  intro q hq
  rw [List.all_eq_true] at h
  simpa using h q hq
theorem ldQ {f : Nat → Nat → AV} {k a b : Nat} {c : Nat → Nat → AV} : TD.val ⟨.slice 3, 1, 24, [.nilS]⟩ (updF f k (0 + 5) (AV.qs a b c).cells k) (0 + 5) = .qs a b c := by
  have : Nat.beq k k = true := by simp
  unfold TD.val updF
  rw [this]
  rfl
def newJ (k t : Nat) : Nat → Nat → AV := fun _ j => nth [.int .i64 k, .int .i64 t, .int .i64 (-1), .int .i64 (-1)] j
theorem job_push (x : Tsk) (t k : Nat) (m : Sim) (a b : Nat) (ha : a < m.jn + 1) : appF m.jn (jobF m) (newJ k t) a b = jobF (pushS x t k m) a b := by
  unfold appF
  by_cases e : a < m.jn
  · rw [bltT e]
    have e1 : (pushS x t k m).jt a = m.jt a := fup_ne (by omega)
    have e2 : (pushS x t k m).jr a = m.jr a := fup_ne (by omega)
    have e3 : (pushS x t k m).js a = m.js a := fup_ne (by omega)
    have e4 : (pushS x t k m).jf a = m.jf a := fup_ne (by omega)
    unfold jobF
    rw [e1, e2, e3, e4]
  · rw [bltF e]
    have : a = m.jn := by omega
    subst this
    have e1 : (pushS x t k m).jt m.jn = k := fup_self
    have e2 : (pushS x t k m).jr m.jn = t := fup_self
    have e3 : (pushS x t k m).js m.jn = -1 := fup_self
    have e4 : (pushS x t k m).jf m.jn = -1 := fup_self
    unfold jobF newJ
    rw [e1, e2, e3, e4]
theorem push_ne {x : Tsk} {t k a b : Nat} {m : Sim} (h : a ≠ k) : linF x (pushS x t k m) a b = linF x m a b := by
  have e1 : (pushS x t k m).qn a = m.qn a := fup_ne h
  have e2 : (pushS x t k m).qf a = m.qf a := fup_ne h
  have e3 : (pushS x t k m).lf a = m.lf a := fup_ne h
  unfold linF qv
  rw [e1, e2, e3]
theorem linB_ne {x : Tsk} {m : Sim} {k a b : Nat} (h : a ≠ k) : linB x m k a b = linF x m a b := by
  unfold linB
  rw [beqF h]
  cases Nat.beq b 5 <;> rfl
theorem qf_push {x : Tsk} {t k : Nat} {m : Sim} {g : Nat → Nat → AV} (hg : g 0 0 = .int .i64 m.jn) : ∀ j, j < m.qn k + 1 → appF (m.qn k) (qv m k) g j 0 = qv (pushS x t k m) k j 0 := by
  intro j hj
  have e : (pushS x t k m).qf k = fup (m.qf k) (m.qn k) m.jn := fup_self
  unfold appF qv
  rw [e]
  by_cases h : j < m.qn k
  · rw [bltT h, fup_ne (by omega)]
  · have : j = m.qn k := by omega
    subst this
    rw [bltF h, fup_self, Nat.sub_self, hg]
theorem ren_pushB {s : Nat → Option (Option Nat)} (hs : GoodS s) {x : Tsk} {m : Sim} {t k a b : Nat} {f0 : Nat → Nat → AV} (hb : b < 7) (ha : a < 8) (hq : m.qn k ≠ 0) (hf : ∀ j, j < m.qn k + 1 → f0 j 0 = qv (pushS x t k m) k j 0) :
    Ren s (updF (linB x m k) k 5 [.qs (300 + k) (m.qn k + 1) f0] a b) (linF x (pushS x t k m) a b) := by
  by_cases e : a = k
  · subst e
    have e1 : (pushS x t a m).qn a = m.qn a + 1 := fup_self
    have e3 : (pushS x t a m).lf a = m.lf a := by
      show fup m.lf a _ a = _
      rw [fup_self, if_neg hq]
    have : AllLt 7 fun b => Ren s (updF (linB x m a) a 5 [.qs (300 + a) (m.qn a + 1) f0] a b) (linF x (pushS x t a m) a b) := by
      refine ⟨⟨⟨⟨⟨⟨⟨trivial, ⟨rfl, rfl⟩⟩, ⟨rfl, rfl⟩⟩, ⟨rfl, rfl⟩⟩, ⟨rfl, rfl⟩⟩, ⟨rfl, rfl⟩⟩, ?_⟩, ?_⟩
      · show Ren s (updF (linB x m a) a 5 [.qs (300 + a) (m.qn a + 1) f0] a 5) (.qs (300 + a) ((pushS x t a m).qn a) (qv (pushS x t a m) a))
        rw [updF_in rfl (by omega) (by simp), e1]
        exact ren_q hs ha hf
      · show Ren s (.int .i64 (m.lf a)) (.int .i64 ((pushS x t a m).lf a))
        rw [e3]
        exact ⟨rfl, rfl⟩
    exact allLt this b hb
  · rw [updF_out (fun h => e h.1), linB_ne e, push_ne e]
    exact ren_self hs hb ha rfl
theorem ren_pushA {s : Nat → Option (Option Nat)} (hs : GoodS s) {x : Tsk} {m : Sim} {t k a b : Nat} {f0 : Nat → Nat → AV} (hb : b < 7) (ha : a < 8) (hq : m.qn k = 0) (hf : ∀ j, j < m.qn k + 1 → f0 j 0 = qv (pushS x t k m) k j 0) :
    Ren s (updF (updF (linB x m k) k 5 [.qs (300 + k) (m.qn k + 1) f0]) k 6 [.int .i64 (x.c k)] a b) (linF x (pushS x t k m) a b) := by
  by_cases e : a = k
  · subst e
    have e1 : (pushS x t a m).qn a = m.qn a + 1 := fup_self
    have e3 : (pushS x t a m).lf a = x.c a := by
      show fup m.lf a _ a = _
      rw [fup_self, if_pos hq]
    have : AllLt 7 fun b => Ren s (updF (updF (linB x m a) a 5 [.qs (300 + a) (m.qn a + 1) f0]) a 6 [.int .i64 (x.c a)] a b) (linF x (pushS x t a m) a b) := by
      refine ⟨⟨⟨⟨⟨⟨⟨trivial, ⟨rfl, rfl⟩⟩, ⟨rfl, rfl⟩⟩, ⟨rfl, rfl⟩⟩, ⟨rfl, rfl⟩⟩, ⟨rfl, rfl⟩⟩, ?_⟩, ?_⟩
      · show Ren s (updF (linB x m a) a 5 [.qs (300 + a) (m.qn a + 1) f0] a 5) (.qs (300 + a) ((pushS x t a m).qn a) (qv (pushS x t a m) a))
        rw [updF_in rfl (by omega) (by simp), e1]
        exact ren_q hs ha hf
      · show Ren s (updF (updF (linB x m a) a 5 [.qs (300 + a) (m.qn a + 1) f0]) a 6 [.int .i64 (x.c a)] a 6) (.int .i64 ((pushS x t a m).lf a))
        rw [updF_in rfl (by omega) (by simp), e3]
        exact ⟨rfl, rfl⟩
    exact allLt this b hb
  · rw [updF_out (fun h => e h.1), updF_out (fun h => e h.1), linB_ne e, push_ne e]
    exact ren_self hs hb ha rfl
theorem bxN_lin {x : Tsk} {m : Sim} {n : Nat} (i j : Nat) (_ : i < n) (hj : j < 7) : tOK (linF x m i j) = true ∧ (tId (linF x m i j)).any (Nat.beq 200) = false := by
  have : AllLt 7 fun j => tOK (linF x m i j) = true ∧ (tId (linF x m i j)).any (Nat.beq 200) = false := by
    refine ⟨⟨⟨⟨⟨⟨⟨trivial, rfl, rfl⟩, rfl, rfl⟩, rfl, rfl⟩, rfl, rfl⟩, rfl, rfl⟩, ?_⟩, rfl, rfl⟩
    refine ⟨rfl, ?_⟩
    have : Nat.beq 200 (300 + i) = false := beqF (by omega)
    simp [linF, nth, tId, this]
  exact allLt this j hj
theorem row_new {s : Nat → Option (Option Nat)} {row : Row} {k t : Nat} (h : row.e = 38 ∧ row.sz = 4 ∧ row.n = 1 ∧ row.st = 0 ∧ row.bx = false) (hf : AllLt 4 fun j => row.f 0 j = newJ k t 0 j) : RowLe s row ⟨38, 4, 1, newJ k t, 0, false⟩ := by
  obtain ⟨h1, h2, h3, h4, h5⟩ := h
  refine ⟨h1.symm, h2.symm, h3.symm, by rw [h5]; rfl, by rw [h4]; rfl, fun i j hi hj => .inr ?_⟩
  have : i = 0 := by omega
  subst this
  exact (allLt hf j (by omega)).symm
def src4 : List (Nat × Option Nat) := [(200, some 200), (202, some 107), (201, some 201)]
theorem ldL {f : Nat → Nat → AV} {k : Nat} {z : Int} : TD.val ⟨.int .i64, 1, 8, [.int .i64 0]⟩ (updF f k (0 + 6) (AV.int .i64 z).cells k) (0 + 6) = .int .i64 z := by
  have : Nat.beq k k = true := by simp
  unfold TD.val updF
  rw [this]
  rfl
theorem run_ne {x : Tsk} {t k a b : Nat} {m : Sim} (h : a ≠ k) : linF x (runS x t k m) a b = linF x m a b := by
  have e1 : (runS x t k m).qn a = m.qn a := fup_ne h
  have e2 : (runS x t k m).qf a = m.qf a := fup_ne h
  have e3 : (runS x t k m).lf a = m.lf a := fup_ne h
  unfold linF qv
  rw [e1, e2, e3]
theorem ren_run0 {s : Nat → Option (Option Nat)} (hs : GoodS s) {x : Tsk} {m : Sim} {t k a b : Nat} {z : Int} (hb : b < 7) (ha : a < 8) (hz : z = m.lf k - 1) (hq : z ≠ 0) :
    Ren s (updF (linF x m) k 6 [.int .i64 z] a b) (linF x (runS x t k m) a b) := by
  subst hz
  by_cases e : a = k
  · subst e
    have e1 : (runS x t a m).qn a = m.qn a := by show fup m.qn a _ a = _; rw [fup_self, if_neg hq]
    have e2 : (runS x t a m).qf a = m.qf a := by show fup m.qf a _ a = _; rw [fup_self, if_neg hq]
    have e3 : (runS x t a m).lf a = m.lf a - 1 := by show fup m.lf a _ a = _; rw [fup_self, if_neg hq]
    have : AllLt 7 fun b => Ren s (updF (linF x m) a 6 [.int .i64 (m.lf a - 1)] a b) (linF x (runS x t a m) a b) := by
      refine ⟨⟨⟨⟨⟨⟨⟨trivial, ⟨rfl, rfl⟩⟩, ⟨rfl, rfl⟩⟩, ⟨rfl, rfl⟩⟩, ⟨rfl, rfl⟩⟩, ⟨rfl, rfl⟩⟩, ?_⟩, ?_⟩
      · show Ren s (.qs (300 + a) (m.qn a) (qv m a)) (.qs (300 + a) ((runS x t a m).qn a) (qv (runS x t a m) a))
        rw [e1]
        refine ren_q hs ha fun j _ => ?_
        unfold qv
        rw [e2]
      · show Ren s (updF (linF x m) a 6 [.int .i64 (m.lf a - 1)] a 6) (.int .i64 ((runS x t a m).lf a))
        rw [updF_in rfl (by omega) (by simp), e3]
        exact ⟨rfl, rfl⟩
    exact allLt this b hb
  · rw [updF_out (fun h => e h.1), run_ne e]
    exact ren_self hs hb ha rfl
theorem ren_run1 {s : Nat → Option (Option Nat)} (hs : GoodS s) {x : Tsk} {m : Sim} {t k a b n : Nat} {z : Int} {f0 : Nat → Nat → AV} (hb : b < 7) (ha : a < 8) (hq : m.lf k - 1 = 0) (hn : n = m.qn k - 1) (hf : ∀ j, f0 j 0 = .int .i64 (m.qf k (j + 1))) :
    Ren s (updF (updF (updF (linF x m) k 6 [.int .i64 z]) k 5 [.qs (300 + k) n f0]) k 6 [.int .i64 (x.c k)] a b) (linF x (runS x t k m) a b) := by
  subst hn
  by_cases e : a = k
  · subst e
    have e1 : (runS x t a m).qn a = m.qn a - 1 := by show fup m.qn a _ a = _; rw [fup_self, if_pos hq]
    have e2 : (runS x t a m).qf a = fun k => m.qf a (k + 1) := by show fup m.qf a _ a = _; rw [fup_self, if_pos hq]
    have e3 : (runS x t a m).lf a = x.c a := by show fup m.lf a _ a = _; rw [fup_self, if_pos hq]
    have : AllLt 7 fun b => Ren s (updF (updF (updF (linF x m) a 6 [.int .i64 z]) a 5 [.qs (300 + a) (m.qn a - 1) f0]) a 6 [.int .i64 (x.c a)] a b) (linF x (runS x t a m) a b) := by
      refine ⟨⟨⟨⟨⟨⟨⟨trivial, ⟨rfl, rfl⟩⟩, ⟨rfl, rfl⟩⟩, ⟨rfl, rfl⟩⟩, ⟨rfl, rfl⟩⟩, ⟨rfl, rfl⟩⟩, ?_⟩, ?_⟩
      · show Ren s (updF (updF (linF x m) a 6 [.int .i64 z]) a 5 [.qs (300 + a) (m.qn a - 1) f0] a 5) (.qs (300 + a) ((runS x t a m).qn a) (qv (runS x t a m) a))
        rw [updF_in rfl (by omega) (by simp), e1]
        refine ren_q hs ha fun j _ => ?_
        unfold qv
        rw [e2]
        exact hf j
      · show Ren s (updF _ a 6 [.int .i64 (x.c a)] a 6) (.int .i64 ((runS x t a m).lf a))
        rw [updF_in rfl (by omega) (by simp), e3]
        exact ⟨rfl, rfl⟩
    exact allLt this b hb
  · rw [updF_out (fun h => e h.1), updF_out (fun h => e h.1), updF_out (fun h => e h.1), run_ne e]
    exact ren_self hs hb ha rfl
theorem upd_at {f : Nat → Nat → AV} {i j : Nat} {v : AV} : updF f i j [v] i j = v := by
  rw [updF_in rfl (Nat.le_refl _) (by simp), Nat.sub_self]; rfl
theorem upd_off {f : Nat → Nat → AV} {i j a b : Nat} {v : AV} (h : b ≠ j) : updF f i j [v] a b = f a b := updF_out (fun q => by
  have h3 := q.2.2
  have h2 := q.2.1
  simp at h3
  omega)
theorem job_run (x : Tsk) (t k : Nat) (m : Sim) (F : Nat → Nat → AV) (h0 : ∀ a b, a ≠ (m.qf k 0).toNat → F a b = jobF m a b)
    (h1 : AllLt 4 fun b => F (m.qf k 0).toNat b = nth [.int .i64 (m.jt (m.qf k 0).toNat), .int .i64 (m.jr (m.qf k 0).toNat), .int .i64 (if m.js (m.qf k 0).toNat < 0 then (t : Int) else m.js (m.qf k 0).toNat), .int .i64 (if m.lf k - 1 = 0 then (t : Int) + 1 else m.jf (m.qf k 0).toNat)] b)
    (a b : Nat) (hb : b < 4) : F a b = jobF (runS x t k m) a b := by
  by_cases e : a = (m.qf k 0).toNat
  · subst e
    rw [allLt h1 b hb]
    have e3 : (runS x t k m).js (m.qf k 0).toNat = if m.js (m.qf k 0).toNat < 0 then (t : Int) else m.js (m.qf k 0).toNat := fup_self
    have e4 : (runS x t k m).jf (m.qf k 0).toNat = if m.lf k - 1 = 0 then (t : Int) + 1 else m.jf (m.qf k 0).toNat := fup_self
    unfold jobF
    rw [e3, e4]
    rfl
  · rw [h0 a b e]
    have e3 : (runS x t k m).js a = m.js a := fup_ne e
    have e4 : (runS x t k m).jf a = m.jf a := fup_ne e
    unfold jobF
    rw [e3, e4]
    rfl
theorem lin1_step (x : Tsk) (i a b : Nat) (hb : b < 7) : updF (lin1 x i) i 0 [.int .i64 (x.p i), .int .i64 (x.o i), .int .i64 (x.c i), .int .i64 (x.d i), .int .i64 (x.q i)] a b = lin1 x (i + 1) a b := by
  by_cases e : a = i
  · subst e
    have h1 : Nat.blt a (a + 1) = true := bltT (by omega)
    have h2 : Nat.blt a a = false := bltF (by omega)
    have h3 : Nat.beq a a = true := by simp
    have : AllLt 7 fun b => updF (lin1 x a) a 0 [.int .i64 (x.p a), .int .i64 (x.o a), .int .i64 (x.c a), .int .i64 (x.d a), .int .i64 (x.q a)] a b = lin1 x (a + 1) a b := by
      refine ⟨⟨⟨⟨⟨⟨⟨trivial, ?_⟩, ?_⟩, ?_⟩, ?_⟩, ?_⟩, ?_⟩, ?_⟩ <;> (simp [updF, lin1, h1, h2, linZ, nth] <;> rfl)
    exact allLt this b hb
  · rw [updF_out (fun h => e h.1)]
    unfold lin1
    by_cases h : a < i
    · rw [bltT h, bltT (show a < i + 1 by omega)]
    · rw [bltF h, bltF (show ¬ a < i + 1 by omega)]
theorem dec_lt {i n : Nat} (h : decide ((i : Int) < (n : Int)) = true) : i < n := by have := of_decide_eq_true h; omega
theorem dec_nlt {i n : Nat} (h : decide ((i : Int) < (n : Int)) = false) : ¬ i < n := by have := of_decide_eq_false h; omega
set_option maxHeartbeats 4000000 in
theorem ok24 : EntOK Try.prog TE 24 sSim := by
  refine ⟨callable_of Try.func24 (by kernel_rfl), fun args => ?_⟩
  unfold sSim
  split
  · rename_i s n f U
    rintro ⟨hs, ht, hok, h0, h1⟩
    generalize tskO f = x at *
    refine FnOK.args (m := [.sl 5 n (tskF x), .int .i64 U]) ?_ ⟨ht.le hs, .refl, trivial⟩
    clear ht hs f
    obtain ⟨u, rfl⟩ := Int.eq_ofNat_of_zero_le h0
    have hn := hok.le
    refine fn_ofI (eat := [77]) tabsOK specOK_nil (inlOK_cons relE inlOK_nil) mixed Try.func24 (by kernel_rfl) ?_
    refine Chk.mk ⟨by omega, Int.le_refl _, by omega, by omega⟩ ?_
    refine LoopOK.mk ⟨{ i : Nat // i ≤ n }, fun i => st1 x n u i.1, fun i => n - i.1, ⟨⟨0, by omega⟩, ?_⟩, ?_⟩
    · refine wk_of [(200, none), (202, none), (201, some 19)] rfl ⟨⟨rfl, rfl⟩, ⟨rfl, rfl⟩, ⟨rfl, rfl⟩, ⟨rfl, rfl⟩, rfl, ⟨rfl, rfl⟩, ⟨rfl, rfl⟩, ⟨rfl, rfl⟩, trivial⟩ ⟨⟨rfl, rfl, rfl⟩, ⟨rfl, rfl, rfl⟩, ?_, trivial⟩
      exact ⟨rfl, rfl, rfl, rfl, rfl, fun i j _ _ => .inr rfl⟩
    rintro ⟨i, hi⟩
    refine Brn.mk (fun h => ?_) (fun h => ?_)
    · have hlt : i < n := dec_lt h
      have hc : 0 ≤ (i : Int) ∧ (i : Int) < n := ⟨by omega, by omega⟩
      refine Chk.mk hc ?_
      refine Chk.mk hc ?_
      refine ⟨⟨i + 1, by omega⟩, by show n - (i + 1) < n - i; omega, ?_⟩
      refine wk_of [(200, some 200), (202, some 202), (201, some 201)] rfl ⟨⟨rfl, rfl⟩, ⟨rfl, rfl⟩, rfl, rfl, rfl, ⟨rfl, rfl⟩, ⟨rfl, rfl⟩, ⟨wrS (show i < 4611686018427387904 by omega), rfl⟩, trivial⟩ ⟨?_, ?_, ?_, trivial⟩
      · exact ⟨rfl, rfl, rfl, rfl, rfl, fun i j _ _ => .inr rfl⟩
      · exact ⟨rfl, rfl, rfl, rfl, rfl, fun i j _ _ => .inr rfl⟩
      · exact ⟨rfl, rfl, rfl, rfl, rfl, fun a b _ hb => .inr (lin1_step x i a b hb).symm⟩
    · have hge : ¬ i < n := dec_nlt h
      have : i = n := by omega
      subst this
      refine LoopOK.mk ⟨{ t : Nat // t ≤ u } × (Nat → Nat), fun k => st2 x i u k.1.1 k.2 (simS x i k.1.1), fun k => u - k.1.1, ⟨(⟨0, by omega⟩, fun _ => 0), ?_⟩, ?_⟩
      · refine wk_of ((200, some 200) :: (202, some 202) :: (201, some 201) :: qNone) rfl ⟨rfl, rfl, rfl, ⟨rfl, rfl⟩, ⟨rfl, rfl⟩, trivial⟩ ⟨?_, ?_, ?_, ⟨rfl, rfl, rfl⟩, ⟨rfl, rfl, rfl⟩, ⟨rfl, rfl, rfl⟩, ⟨rfl, rfl, rfl⟩, ⟨rfl, rfl, rfl⟩, ⟨rfl, rfl, rfl⟩, ⟨rfl, rfl, rfl⟩, ⟨rfl, rfl, rfl⟩, trivial⟩
        · exact ⟨rfl, rfl, rfl, rfl, rfl, fun i j _ _ => .inr rfl⟩
        · exact ⟨rfl, rfl, rfl, rfl, rfl, fun i j _ _ => .inr rfl⟩
        · refine ⟨rfl, rfl, rfl, rfl, rfl, fun a b ha hb => ren_lin hb (fun e => ?_) (fun e => ?_)⟩
          · subst e
            have ha : a < i := ha
            show Ren _ (lin1 x i a 5) _
            unfold lin1
            rw [bltT ha]
            simp only [Ren, srcE]
            rw [lookR_small (ss := src0) rfl (by omega), lookO_skip (by omega), lookO_skip (by omega), lookO_skip (by omega)]
            simp only [lookO_N (show a < 8 by omega)]
            exact ⟨rfl, rfl⟩
          · have ha : a < i := ha
            show lin1 x i a b = _
            unfold lin1
            rw [bltT ha]
            have : AllLt 7 fun b => b ≠ 5 → nth [.int .i64 (x.p a), .int .i64 (x.o a), .int .i64 (x.c a), .int .i64 (x.d a), .int .i64 (x.q a), .nilS, .int .i64 0] b = linF x (simS x i 0) a b :=
              ⟨⟨⟨⟨⟨⟨⟨trivial, fun _ => rfl⟩, fun _ => rfl⟩, fun _ => rfl⟩, fun _ => rfl⟩, fun _ => rfl⟩, fun h => absurd rfl h⟩, fun _ => rfl⟩
            exact allLt this b hb e
      rintro ⟨⟨t, ht⟩, e⟩
      have hw := sim_ok hok t
      have hI := inn_ok (t := t) hw hok (by omega)
      refine Brn.mk (fun h => ?_) (fun h => ?_)
      · have hlt : t < u := dec_lt h
        refine LoopOK.mk ⟨{ k : Nat // k ≤ i } × (Nat → Nat), fun k => st3 x i u t k.1.1 k.2 (inn x t (simS x i t) k.1.1), fun k => i - k.1.1, ⟨(⟨0, by omega⟩, e), ?_⟩, ?_⟩
        · refine wk_of (src0 ++ qSome) rfl ⟨rfl, rfl, rfl, ⟨rfl, rfl⟩, ⟨rfl, rfl⟩, ⟨rfl, rfl⟩, ⟨rfl, rfl⟩, ⟨rfl, rfl⟩, ⟨rfl, rfl⟩, trivial⟩ ⟨?_, ?_, ?_, RowLe.q rfl, RowLe.q rfl, RowLe.q rfl, RowLe.q rfl, RowLe.q rfl, RowLe.q rfl, RowLe.q rfl, RowLe.q rfl, trivial⟩
          · exact ⟨rfl, rfl, rfl, rfl, rfl, fun i j _ _ => .inr rfl⟩
          · exact ⟨rfl, rfl, rfl, rfl, rfl, fun i j _ _ => .inr rfl⟩
          · exact ⟨rfl, rfl, rfl, rfl, rfl, fun a b ha hb => ren_self (goodS rfl) hb (by have ha : a < i := ha; omega) rfl⟩
        rintro ⟨⟨k, hk⟩, e⟩
        obtain ⟨hW, hR⟩ := hI k hk
        obtain ⟨r, hr⟩ : ∃ r, inn x t (simS x i t) k = r := ⟨_, rfl⟩
        have hpk := hok.p
        have hok' := hok.o
        refine Brn.mk (fun h => ?_) (fun h => ?_)
        · have hki : k < i := dec_lt h
          have hc : 0 ≤ (k : Int) ∧ (k : Int) < i := ⟨by omega, by omega⟩
          have hp1 := hok.p k hki
          have ho1 := hok.o k hki
          refine Chk.mk hc ?_
          refine Brn.mk (fun h1 => ?_) (fun h1 => ?_)
          · refine Chk.mk (show x.p k ≠ 0 by omega) ?_
            refine Brn.mk (fun h2 => ?_) (fun h2 => ?_)
            · obtain ⟨r, hr⟩ : ∃ r, r = inn x t (simS x i t) k := ⟨_, rfl⟩
              refine InlP.mk ⟨(14, .elt 201 k 0 7) :: (13, .int .i64 k) :: (68, .elt 201 k 0 7) :: (70, .int .i64 (inn x t (simS x i t) k).1.jn) :: tv3 i u t k (inn x t (simS x i t) k), [68, 70],
                [(200, jR (inn x t (simS x i t) k).1.jn (inn x t (simS x i t) k).1), (202, oR t), (201, lR i (linF x (inn x t (simS x i t) k).1) true)] ++ qRows e, ?_, rfl, ?_⟩
              · refine wk_of (src0 ++ qSome) rfl ⟨rfl, ⟨rfl, rfl⟩, rfl, ⟨rfl, rfl⟩, rfl, rfl, rfl, ⟨rfl, rfl⟩, ⟨rfl, rfl⟩, ⟨rfl, rfl⟩, ⟨rfl, rfl⟩, ⟨rfl, rfl⟩, ⟨rfl, rfl⟩, trivial⟩ ⟨?_, ?_, ?_, RowLe.q rfl, RowLe.q rfl, RowLe.q rfl, RowLe.q rfl, RowLe.q rfl, RowLe.q rfl, RowLe.q rfl, RowLe.q rfl, trivial⟩
                · exact ⟨rfl, rfl, rfl, rfl, rfl, fun i j _ _ => .inr rfl⟩
                · exact ⟨rfl, rfl, rfl, rfl, rfl, fun i j _ _ => .inr rfl⟩
                · exact ⟨rfl, rfl, rfl, rfl, rfl, fun a b ha hb => ren_self (goodS rfl) hb (by have ha : a < i := ha; omega) rfl⟩
              intro b
              refine InlP.mk ⟨[(0, .elt 201 k 0 7), (1, .int .i64 (inn x t (simS x i t) k).1.jn), (4, .elt 201 k 0 7), (8, .qs (300 + k) ((inn x t (simS x i t) k).1.qn k) (qv (inn x t (simS x i t) k).1 k)), (10, .own 10 1)], [8, 10],
                [(200, jR (inn x t (simS x i t) k).1.jn (inn x t (simS x i t) k).1), (202, oR t), (201, lR i (linB x (inn x t (simS x i t) k).1 k) true), (10, ⟨3, 1, 1, fun _ _ => .int .i64 (inn x t (simS x i t) k).1.jn, 0, false⟩)] ++ qRows e, ?_, rfl, ?_⟩
              · refine wk_of (src1 ++ qSome) rfl ⟨rfl, ⟨rfl, rfl⟩, rfl, ren_q (goodS (ss := src1) rfl) (by omega) (fun _ _ => rfl), rfl, trivial⟩ ⟨?_, ?_, ?_, ?_, RowLe.q rfl, RowLe.q rfl, RowLe.q rfl, RowLe.q rfl, RowLe.q rfl, RowLe.q rfl, RowLe.q rfl, RowLe.q rfl, trivial⟩
                · exact ⟨rfl, rfl, rfl, rfl, rfl, fun i j _ _ => .inr rfl⟩
                · exact ⟨rfl, rfl, rfl, rfl, rfl, fun i j _ _ => .inr rfl⟩
                · exact ⟨rfl, rfl, rfl, rfl, rfl, fun a b ha hb => ren_linB (goodS rfl) hb (by have ha : a < i := ha; omega)⟩
                · refine ⟨rfl, rfl, rfl, rfl, rfl, fun a b ha hb => ?_⟩
                  have ha : a < 1 := ha
                  have hb : b < 1 := hb
                  have : a = 0 := by omega
                  subst this
                  have : b = 0 := by omega
                  subst this
                  exact .inr rfl
              have hjn := hW.jn
              have hqn := hW.qn k hki
              have htn : t * i ≤ 65536 * 8 := Nat.mul_le_mul (by omega) hn
              refine QAppP.mk ⟨3, 1, 24, [.nilS], .int .i64, 8, [.int .i64 0], 1, _, e k, fun _ _ => .bad, fun e' => [(200, jR (inn x t (simS x i t) k).1.jn (inn x t (simS x i t) k).1), (202, oR t), (201, lR i (linB x (inn x t (simS x i t) k).1 k) true), (10, ⟨3, 1, 1, fun _ _ => .int .i64 (inn x t (simS x i t) k).1.jn, 0, false⟩)] ++ qRows (fup e k e'),
                rfl, rfl, rfl, rfl, by omega, lookR_small (ss := src1) rfl (by omega), ?_, ?_, ⟨by omega, by omega⟩, fun e' q hq => lookR_big hq (fun j hj => fup_ne hj), fun e' => ?_, ?_⟩
              · intro q hq
                have := all300 rfl q hq
                omega
              · exact ⟨bxN_linB, trivial⟩
              · rw [lookR_small (ss := src1) rfl (by omega), fup_self]; rfl
              intro e'
              conv =>
                whnf
                arg 2
                rw [ldQ]
              have hdue : due x t k := ⟨of_decide_eq_true h1, by
                have h2 : (wr ((t : Int) - x.o k)).tmod (x.p k) = 0 := of_decide_eq_true h2
                rwa [wr_id (by omega) (by omega)] at h2⟩
              refine Brn.mk (fun h3 => ?_) (fun h3 => ?_)
              · have h3 : (((inn x t (simS x i t) k).1.qn k + 1 : Nat) : Int) = 1 := of_decide_eq_true h3
                refine InlP.mk ⟨[(6, .own 202 t), (8, .own 201 i), (11, .int .i64 t), (12, .int .i64 (inn x t (simS x i t) k).2), (13, .int .i64 k), (14, .elt 201 k 0 7), (33, .int .i64 u), (34, .int .i64 t), (38, .int .i64 i), (39, .int .i64 k), (72, .own 200 (inn x t (simS x i t) k).1.jn), (76, .own 76 1)], [72, 76],
                  [(200, jR (inn x t (simS x i t) k).1.jn (inn x t (simS x i t) k).1), (202, oR t), (201, lR i (linF x (pushS x t k (inn x t (simS x i t) k).1)) true), (76, ⟨38, 4, 1, newJ k t, 0, false⟩)] ++ qRows (fup e k e'), ?_, rfl, ?_⟩
                · refine wk_of (src2 ++ qSome) rfl ⟨rfl, rfl, ⟨rfl, rfl⟩, ⟨rfl, rfl⟩, ⟨rfl, rfl⟩, rfl, ⟨rfl, rfl⟩, ⟨rfl, rfl⟩, ⟨rfl, rfl⟩, ⟨rfl, rfl⟩, rfl, rfl, trivial⟩ ⟨?_, ?_, ?_, row_new ⟨rfl, rfl, rfl, rfl, rfl⟩ ⟨⟨⟨⟨trivial, rfl⟩, rfl⟩, rfl⟩, rfl⟩, RowLe.q rfl, RowLe.q rfl, RowLe.q rfl, RowLe.q rfl, RowLe.q rfl, RowLe.q rfl, RowLe.q rfl, RowLe.q rfl, trivial⟩
                  · exact ⟨rfl, rfl, rfl, rfl, rfl, fun i j _ _ => .inr rfl⟩
                  · exact ⟨rfl, rfl, rfl, rfl, rfl, fun i j _ _ => .inr rfl⟩
                  · exact ⟨rfl, rfl, rfl, rfl, rfl, fun a b ha hb => ren_pushA (goodS rfl) hb (by have ha : a < i := ha; omega) (by omega) (qf_push rfl)⟩
                refine Chk.mk ⟨by omega, by omega⟩ ⟨⟨bxN_lin, trivial⟩, ?_⟩
                refine Brn.mk (fun g1 => ?_) (fun g1 => ?_)
                · have g1 : (0 : Int) < (((pushS x t k (inn x t (simS x i t) k).1).qn k : Nat) : Int) := of_decide_eq_true g1
                  refine Brn.mk (fun g2 => ?_) (fun g2 => ?_)
                  · have g2 : (inn x t (simS x i t) k).2 < 0 := of_decide_eq_true g2
                    have hs : inn x t (simS x i t) (k + 1) = (pushS x t k (inn x t (simS x i t) k).1, (k : Int)) := by
                      show (relS x t k (inn x t (simS x i t) k).1, pick x (relS x t k (inn x t (simS x i t) k).1) k (inn x t (simS x i t) k).2) = _
                      rw [show relS x t k (inn x t (simS x i t) k).1 = pushS x t k (inn x t (simS x i t) k).1 from if_pos hdue]
                      unfold pick
                      rw [if_pos ⟨by omega, .inl g2⟩]
                    refine ⟨(⟨k + 1, by omega⟩, fup e k e'), by show i - (k + 1) < i - k; omega, ?_⟩
                    show Wk _ _ (st3 x i u t (k + 1) (fup e k e') (inn x t (simS x i t) (k + 1)))
                    rw [hs]
                    refine wk_of (src3 ++ qSome) rfl ⟨rfl, rfl, rfl, ⟨rfl, rfl⟩, ⟨rfl, rfl⟩, ⟨rfl, rfl⟩, ⟨rfl, rfl⟩, ⟨rfl, rfl⟩, ⟨wrS (show k < 4611686018427387904 by omega), rfl⟩, trivial⟩ ⟨?_, ?_, ?_, RowLe.q rfl, RowLe.q rfl, RowLe.q rfl, RowLe.q rfl, RowLe.q rfl, RowLe.q rfl, RowLe.q rfl, RowLe.q rfl, trivial⟩
                    · exact ⟨rfl, rfl, rfl, rfl, rfl, fun a b ha hb => .inr (job_push x t k _ a b ha).symm⟩
                    · exact ⟨rfl, rfl, rfl, rfl, rfl, fun i j _ _ => .inr rfl⟩
                    · exact ⟨rfl, rfl, rfl, rfl, rfl, fun a b ha hb => ren_self (goodS rfl) hb (by have ha : a < i := ha; omega) rfl⟩
                  · have g2 : ¬ (inn x t (simS x i t) k).2 < 0 := of_decide_eq_false g2
                    have hR2 := hR.hi
                    refine Chk.mk (show 0 ≤ (inn x t (simS x i t) k).2 ∧ (inn x t (simS x i t) k).2 < (i : Int) from ⟨by omega, by omega⟩) ?_
                    refine Brn.mk (fun g3 => ?_) (fun g3 => ?_)
                    · have g3 : x.q k < x.q (inn x t (simS x i t) k).2.toNat := of_decide_eq_true g3
                      have hs : inn x t (simS x i t) (k + 1) = (pushS x t k (inn x t (simS x i t) k).1, (k : Int)) := by
                        show (relS x t k (inn x t (simS x i t) k).1, pick x (relS x t k (inn x t (simS x i t) k).1) k (inn x t (simS x i t) k).2) = _
                        rw [show relS x t k (inn x t (simS x i t) k).1 = pushS x t k (inn x t (simS x i t) k).1 from if_pos hdue]
                        unfold pick
                        rw [if_pos ⟨by omega, .inr g3⟩]
                      refine ⟨(⟨k + 1, by omega⟩, fup e k e'), by show i - (k + 1) < i - k; omega, ?_⟩
                      show Wk _ _ (st3 x i u t (k + 1) (fup e k e') (inn x t (simS x i t) (k + 1)))
                      rw [hs]
                      refine wk_of (src3 ++ qSome) rfl ⟨rfl, rfl, rfl, ⟨rfl, rfl⟩, ⟨rfl, rfl⟩, ⟨rfl, rfl⟩, ⟨rfl, rfl⟩, ⟨rfl, rfl⟩, ⟨wrS (show k < 4611686018427387904 by omega), rfl⟩, trivial⟩ ⟨?_, ?_, ?_, RowLe.q rfl, RowLe.q rfl, RowLe.q rfl, RowLe.q rfl, RowLe.q rfl, RowLe.q rfl, RowLe.q rfl, RowLe.q rfl, trivial⟩
                      · exact ⟨rfl, rfl, rfl, rfl, rfl, fun a b ha hb => .inr (job_push x t k _ a b ha).symm⟩
                      · exact ⟨rfl, rfl, rfl, rfl, rfl, fun i j _ _ => .inr rfl⟩
                      · exact ⟨rfl, rfl, rfl, rfl, rfl, fun a b ha hb => ren_self (goodS rfl) hb (by have ha : a < i := ha; omega) rfl⟩
                    · have g3 : ¬ x.q k < x.q (inn x t (simS x i t) k).2.toNat := of_decide_eq_false g3
                      have hs : inn x t (simS x i t) (k + 1) = (pushS x t k (inn x t (simS x i t) k).1, (inn x t (simS x i t) k).2) := by
                        show (relS x t k (inn x t (simS x i t) k).1, pick x (relS x t k (inn x t (simS x i t) k).1) k (inn x t (simS x i t) k).2) = _
                        rw [show relS x t k (inn x t (simS x i t) k).1 = pushS x t k (inn x t (simS x i t) k).1 from if_pos hdue]
                        unfold pick
                        rw [if_neg (fun q => q.2.elim g2 g3)]
                      refine ⟨(⟨k + 1, by omega⟩, fup e k e'), by show i - (k + 1) < i - k; omega, ?_⟩
                      show Wk _ _ (st3 x i u t (k + 1) (fup e k e') (inn x t (simS x i t) (k + 1)))
                      rw [hs]
                      refine wk_of (src3 ++ qSome) rfl ⟨rfl, rfl, rfl, ⟨rfl, rfl⟩, ⟨rfl, rfl⟩, ⟨rfl, rfl⟩, ⟨rfl, rfl⟩, ⟨rfl, rfl⟩, ⟨wrS (show k < 4611686018427387904 by omega), rfl⟩, trivial⟩ ⟨?_, ?_, ?_, RowLe.q rfl, RowLe.q rfl, RowLe.q rfl, RowLe.q rfl, RowLe.q rfl, RowLe.q rfl, RowLe.q rfl, RowLe.q rfl, trivial⟩
                      · exact ⟨rfl, rfl, rfl, rfl, rfl, fun a b ha hb => .inr (job_push x t k _ a b ha).symm⟩
                      · exact ⟨rfl, rfl, rfl, rfl, rfl, fun i j _ _ => .inr rfl⟩
                      · exact ⟨rfl, rfl, rfl, rfl, rfl, fun a b ha hb => ren_self (goodS rfl) hb (by have ha : a < i := ha; omega) rfl⟩
                · have g1 : ¬ (0 : Int) < (((pushS x t k (inn x t (simS x i t) k).1).qn k : Nat) : Int) := of_decide_eq_false g1
                  have hs : inn x t (simS x i t) (k + 1) = (pushS x t k (inn x t (simS x i t) k).1, (inn x t (simS x i t) k).2) := by
                    show (relS x t k (inn x t (simS x i t) k).1, pick x (relS x t k (inn x t (simS x i t) k).1) k (inn x t (simS x i t) k).2) = _
                    rw [show relS x t k (inn x t (simS x i t) k).1 = pushS x t k (inn x t (simS x i t) k).1 from if_pos hdue]
                    unfold pick
                    rw [if_neg (fun q => g1 (by omega))]
                  refine ⟨(⟨k + 1, by omega⟩, fup e k e'), by show i - (k + 1) < i - k; omega, ?_⟩
                  show Wk _ _ (st3 x i u t (k + 1) (fup e k e') (inn x t (simS x i t) (k + 1)))
                  rw [hs]
                  refine wk_of (src3 ++ qSome) rfl ⟨rfl, rfl, rfl, ⟨rfl, rfl⟩, ⟨rfl, rfl⟩, ⟨rfl, rfl⟩, ⟨rfl, rfl⟩, ⟨rfl, rfl⟩, ⟨wrS (show k < 4611686018427387904 by omega), rfl⟩, trivial⟩ ⟨?_, ?_, ?_, RowLe.q rfl, RowLe.q rfl, RowLe.q rfl, RowLe.q rfl, RowLe.q rfl, RowLe.q rfl, RowLe.q rfl, RowLe.q rfl, trivial⟩
                  · exact ⟨rfl, rfl, rfl, rfl, rfl, fun a b ha hb => .inr (job_push x t k _ a b ha).symm⟩
                  · exact ⟨rfl, rfl, rfl, rfl, rfl, fun i j _ _ => .inr rfl⟩
                  · exact ⟨rfl, rfl, rfl, rfl, rfl, fun a b ha hb => ren_self (goodS rfl) hb (by have ha : a < i := ha; omega) rfl⟩
              · have h3 : ¬ (((inn x t (simS x i t) k).1.qn k + 1 : Nat) : Int) = 1 := of_decide_eq_false h3
                refine InlP.mk ⟨[(6, .own 202 t), (8, .own 201 i), (11, .int .i64 t), (12, .int .i64 (inn x t (simS x i t) k).2), (13, .int .i64 k), (14, .elt 201 k 0 7), (33, .int .i64 u), (34, .int .i64 t), (38, .int .i64 i), (39, .int .i64 k), (72, .own 200 (inn x t (simS x i t) k).1.jn), (76, .own 76 1)], [72, 76],
                  [(200, jR (inn x t (simS x i t) k).1.jn (inn x t (simS x i t) k).1), (202, oR t), (201, lR i (linF x (pushS x t k (inn x t (simS x i t) k).1)) true), (76, ⟨38, 4, 1, newJ k t, 0, false⟩)] ++ qRows (fup e k e'), ?_, rfl, ?_⟩
                · refine wk_of (src2 ++ qSome) rfl ⟨rfl, rfl, ⟨rfl, rfl⟩, ⟨rfl, rfl⟩, ⟨rfl, rfl⟩, rfl, ⟨rfl, rfl⟩, ⟨rfl, rfl⟩, ⟨rfl, rfl⟩, ⟨rfl, rfl⟩, rfl, rfl, trivial⟩ ⟨?_, ?_, ?_, row_new ⟨rfl, rfl, rfl, rfl, rfl⟩ ⟨⟨⟨⟨trivial, rfl⟩, rfl⟩, rfl⟩, rfl⟩, RowLe.q rfl, RowLe.q rfl, RowLe.q rfl, RowLe.q rfl, RowLe.q rfl, RowLe.q rfl, RowLe.q rfl, RowLe.q rfl, trivial⟩
                  · exact ⟨rfl, rfl, rfl, rfl, rfl, fun i j _ _ => .inr rfl⟩
                  · exact ⟨rfl, rfl, rfl, rfl, rfl, fun i j _ _ => .inr rfl⟩
                  · exact ⟨rfl, rfl, rfl, rfl, rfl, fun a b ha hb => ren_pushB (goodS rfl) hb (by have ha : a < i := ha; omega) (by omega) (qf_push rfl)⟩
                refine Chk.mk ⟨by omega, by omega⟩ ⟨⟨bxN_lin, trivial⟩, ?_⟩
                refine Brn.mk (fun g1 => ?_) (fun g1 => ?_)
                · have g1 : (0 : Int) < (((pushS x t k (inn x t (simS x i t) k).1).qn k : Nat) : Int) := of_decide_eq_true g1
                  refine Brn.mk (fun g2 => ?_) (fun g2 => ?_)
                  · have g2 : (inn x t (simS x i t) k).2 < 0 := of_decide_eq_true g2
                    have hs : inn x t (simS x i t) (k + 1) = (pushS x t k (inn x t (simS x i t) k).1, (k : Int)) := by
                      show (relS x t k (inn x t (simS x i t) k).1, pick x (relS x t k (inn x t (simS x i t) k).1) k (inn x t (simS x i t) k).2) = _
                      rw [show relS x t k (inn x t (simS x i t) k).1 = pushS x t k (inn x t (simS x i t) k).1 from if_pos hdue]
                      unfold pick
                      rw [if_pos ⟨by omega, .inl g2⟩]
                    refine ⟨(⟨k + 1, by omega⟩, fup e k e'), by show i - (k + 1) < i - k; omega, ?_⟩
                    show Wk _ _ (st3 x i u t (k + 1) (fup e k e') (inn x t (simS x i t) (k + 1)))
                    rw [hs]
                    refine wk_of (src3 ++ qSome) rfl ⟨rfl, rfl, rfl, ⟨rfl, rfl⟩, ⟨rfl, rfl⟩, ⟨rfl, rfl⟩, ⟨rfl, rfl⟩, ⟨rfl, rfl⟩, ⟨wrS (show k < 4611686018427387904 by omega), rfl⟩, trivial⟩ ⟨?_, ?_, ?_, RowLe.q rfl, RowLe.q rfl, RowLe.q rfl, RowLe.q rfl, RowLe.q rfl, RowLe.q rfl, RowLe.q rfl, RowLe.q rfl, trivial⟩
                    · exact ⟨rfl, rfl, rfl, rfl, rfl, fun a b ha hb => .inr (job_push x t k _ a b ha).symm⟩
                    · exact ⟨rfl, rfl, rfl, rfl, rfl, fun i j _ _ => .inr rfl⟩
                    · exact ⟨rfl, rfl, rfl, rfl, rfl, fun a b ha hb => ren_self (goodS rfl) hb (by have ha : a < i := ha; omega) rfl⟩
                  · have g2 : ¬ (inn x t (simS x i t) k).2 < 0 := of_decide_eq_false g2
                    have hR2 := hR.hi
                    refine Chk.mk (show 0 ≤ (inn x t (simS x i t) k).2 ∧ (inn x t (simS x i t) k).2 < (i : Int) from ⟨by omega, by omega⟩) ?_
                    refine Brn.mk (fun g3 => ?_) (fun g3 => ?_)
                    · have g3 : x.q k < x.q (inn x t (simS x i t) k).2.toNat := of_decide_eq_true g3
                      have hs : inn x t (simS x i t) (k + 1) = (pushS x t k (inn x t (simS x i t) k).1, (k : Int)) := by
                        show (relS x t k (inn x t (simS x i t) k).1, pick x (relS x t k (inn x t (simS x i t) k).1) k (inn x t (simS x i t) k).2) = _
                        rw [show relS x t k (inn x t (simS x i t) k).1 = pushS x t k (inn x t (simS x i t) k).1 from if_pos hdue]
                        unfold pick
                        rw [if_pos ⟨by omega, .inr g3⟩]
                      refine ⟨(⟨k + 1, by omega⟩, fup e k e'), by show i - (k + 1) < i - k; omega, ?_⟩
                      show Wk _ _ (st3 x i u t (k + 1) (fup e k e') (inn x t (simS x i t) (k + 1)))
                      rw [hs]
                      refine wk_of (src3 ++ qSome) rfl ⟨rfl, rfl, rfl, ⟨rfl, rfl⟩, ⟨rfl, rfl⟩, ⟨rfl, rfl⟩, ⟨rfl, rfl⟩, ⟨rfl, rfl⟩, ⟨wrS (show k < 4611686018427387904 by omega), rfl⟩, trivial⟩ ⟨?_, ?_, ?_, RowLe.q rfl, RowLe.q rfl, RowLe.q rfl, RowLe.q rfl, RowLe.q rfl, RowLe.q rfl, RowLe.q rfl, RowLe.q rfl, trivial⟩
                      · exact ⟨rfl, rfl, rfl, rfl, rfl, fun a b ha hb => .inr (job_push x t k _ a b ha).symm⟩
                      · exact ⟨rfl, rfl, rfl, rfl, rfl, fun i j _ _ => .inr rfl⟩
                      · exact ⟨rfl, rfl, rfl, rfl, rfl, fun a b ha hb => ren_self (goodS rfl) hb (by have ha : a < i := ha; omega) rfl⟩
                    · have g3 : ¬ x.q k < x.q (inn x t (simS x i t) k).2.toNat := of_decide_eq_false g3
                      have hs : inn x t (simS x i t) (k + 1) = (pushS x t k (inn x t (simS x i t) k).1, (inn x t (simS x i t) k).2) := by
                        show (relS x t k (inn x t (simS x i t) k).1, pick x (relS x t k (inn x t (simS x i t) k).1) k (inn x t (simS x i t) k).2) = _
                        rw [show relS x t k (inn x t (simS x i t) k).1 = pushS x t k (inn x t (simS x i t) k).1 from if_pos hdue]
                        unfold pick
                        rw [if_neg (fun q => q.2.elim g2 g3)]
                      refine ⟨(⟨k + 1, by omega⟩, fup e k e'), by show i - (k + 1) < i - k; omega, ?_⟩
                      show Wk _ _ (st3 x i u t (k + 1) (fup e k e') (inn x t (simS x i t) (k + 1)))
                      rw [hs]
                      refine wk_of (src3 ++ qSome) rfl ⟨rfl, rfl, rfl, ⟨rfl, rfl⟩, ⟨rfl, rfl⟩, ⟨rfl, rfl⟩, ⟨rfl, rfl⟩, ⟨rfl, rfl⟩, ⟨wrS (show k < 4611686018427387904 by omega), rfl⟩, trivial⟩ ⟨?_, ?_, ?_, RowLe.q rfl, RowLe.q rfl, RowLe.q rfl, RowLe.q rfl, RowLe.q rfl, RowLe.q rfl, RowLe.q rfl, RowLe.q rfl, trivial⟩
                      · exact ⟨rfl, rfl, rfl, rfl, rfl, fun a b ha hb => .inr (job_push x t k _ a b ha).symm⟩
                      · exact ⟨rfl, rfl, rfl, rfl, rfl, fun i j _ _ => .inr rfl⟩
                      · exact ⟨rfl, rfl, rfl, rfl, rfl, fun a b ha hb => ren_self (goodS rfl) hb (by have ha : a < i := ha; omega) rfl⟩
                · have g1 : ¬ (0 : Int) < (((pushS x t k (inn x t (simS x i t) k).1).qn k : Nat) : Int) := of_decide_eq_false g1
                  have hs : inn x t (simS x i t) (k + 1) = (pushS x t k (inn x t (simS x i t) k).1, (inn x t (simS x i t) k).2) := by
                    show (relS x t k (inn x t (simS x i t) k).1, pick x (relS x t k (inn x t (simS x i t) k).1) k (inn x t (simS x i t) k).2) = _
                    rw [show relS x t k (inn x t (simS x i t) k).1 = pushS x t k (inn x t (simS x i t) k).1 from if_pos hdue]
                    unfold pick
                    rw [if_neg (fun q => g1 (by omega))]
                  refine ⟨(⟨k + 1, by omega⟩, fup e k e'), by show i - (k + 1) < i - k; omega, ?_⟩
                  show Wk _ _ (st3 x i u t (k + 1) (fup e k e') (inn x t (simS x i t) (k + 1)))
                  rw [hs]
                  refine wk_of (src3 ++ qSome) rfl ⟨rfl, rfl, rfl, ⟨rfl, rfl⟩, ⟨rfl, rfl⟩, ⟨rfl, rfl⟩, ⟨rfl, rfl⟩, ⟨rfl, rfl⟩, ⟨wrS (show k < 4611686018427387904 by omega), rfl⟩, trivial⟩ ⟨?_, ?_, ?_, RowLe.q rfl, RowLe.q rfl, RowLe.q rfl, RowLe.q rfl, RowLe.q rfl, RowLe.q rfl, RowLe.q rfl, RowLe.q rfl, trivial⟩
                  · exact ⟨rfl, rfl, rfl, rfl, rfl, fun a b ha hb => .inr (job_push x t k _ a b ha).symm⟩
                  · exact ⟨rfl, rfl, rfl, rfl, rfl, fun i j _ _ => .inr rfl⟩
                  · exact ⟨rfl, rfl, rfl, rfl, rfl, fun a b ha hb => ren_self (goodS rfl) hb (by have ha : a < i := ha; omega) rfl⟩
            · have hdue : ¬ due x t k := fun q => by
                have h2 : ¬ (wr ((t : Int) - x.o k)).tmod (x.p k) = 0 := of_decide_eq_false h2
                have h1 : x.o k ≤ (t : Int) := of_decide_eq_true h1
                rw [wr_id (by omega) (by omega)] at h2
                exact h2 q.2
              refine Brn.mk (fun g1 => ?_) (fun g1 => ?_)
              · have g1 : (0 : Int) < ((((inn x t (simS x i t) k).1).qn k : Nat) : Int) := of_decide_eq_true g1
                refine Brn.mk (fun g2 => ?_) (fun g2 => ?_)
                · have g2 : (inn x t (simS x i t) k).2 < 0 := of_decide_eq_true g2
                  have hs : inn x t (simS x i t) (k + 1) = ((inn x t (simS x i t) k).1, (k : Int)) := by
                    show (relS x t k (inn x t (simS x i t) k).1, pick x (relS x t k (inn x t (simS x i t) k).1) k (inn x t (simS x i t) k).2) = _
                    rw [show relS x t k (inn x t (simS x i t) k).1 = (inn x t (simS x i t) k).1 from if_neg hdue]
                    unfold pick
                    rw [if_pos ⟨by omega, .inl g2⟩]
                  refine ⟨(⟨k + 1, by omega⟩, e), by show i - (k + 1) < i - k; omega, ?_⟩
                  show Wk _ _ (st3 x i u t (k + 1) (e) (inn x t (simS x i t) (k + 1)))
                  rw [hs]
                  refine wk_of (src0 ++ qSome) rfl ⟨rfl, rfl, rfl, ⟨rfl, rfl⟩, ⟨rfl, rfl⟩, ⟨rfl, rfl⟩, ⟨rfl, rfl⟩, ⟨rfl, rfl⟩, ⟨wrS (show k < 4611686018427387904 by omega), rfl⟩, trivial⟩ ⟨?_, ?_, ?_, RowLe.q rfl, RowLe.q rfl, RowLe.q rfl, RowLe.q rfl, RowLe.q rfl, RowLe.q rfl, RowLe.q rfl, RowLe.q rfl, trivial⟩
                  · exact ⟨rfl, rfl, rfl, rfl, rfl, fun i j _ _ => .inr rfl⟩
                  · exact ⟨rfl, rfl, rfl, rfl, rfl, fun i j _ _ => .inr rfl⟩
                  · exact ⟨rfl, rfl, rfl, rfl, rfl, fun a b ha hb => ren_self (goodS rfl) hb (by have ha : a < i := ha; omega) rfl⟩
                · have g2 : ¬ (inn x t (simS x i t) k).2 < 0 := of_decide_eq_false g2
                  have hR2 := hR.hi
                  refine Chk.mk (show 0 ≤ (inn x t (simS x i t) k).2 ∧ (inn x t (simS x i t) k).2 < (i : Int) from ⟨by omega, by omega⟩) ?_
                  refine Brn.mk (fun g3 => ?_) (fun g3 => ?_)
                  · have g3 : x.q k < x.q (inn x t (simS x i t) k).2.toNat := of_decide_eq_true g3
                    have hs : inn x t (simS x i t) (k + 1) = ((inn x t (simS x i t) k).1, (k : Int)) := by
                      show (relS x t k (inn x t (simS x i t) k).1, pick x (relS x t k (inn x t (simS x i t) k).1) k (inn x t (simS x i t) k).2) = _
                      rw [show relS x t k (inn x t (simS x i t) k).1 = (inn x t (simS x i t) k).1 from if_neg hdue]
                      unfold pick
                      rw [if_pos ⟨by omega, .inr g3⟩]
                    refine ⟨(⟨k + 1, by omega⟩, e), by show i - (k + 1) < i - k; omega, ?_⟩
                    show Wk _ _ (st3 x i u t (k + 1) (e) (inn x t (simS x i t) (k + 1)))
                    rw [hs]
                    refine wk_of (src0 ++ qSome) rfl ⟨rfl, rfl, rfl, ⟨rfl, rfl⟩, ⟨rfl, rfl⟩, ⟨rfl, rfl⟩, ⟨rfl, rfl⟩, ⟨rfl, rfl⟩, ⟨wrS (show k < 4611686018427387904 by omega), rfl⟩, trivial⟩ ⟨?_, ?_, ?_, RowLe.q rfl, RowLe.q rfl, RowLe.q rfl, RowLe.q rfl, RowLe.q rfl, RowLe.q rfl, RowLe.q rfl, RowLe.q rfl, trivial⟩
                    · exact ⟨rfl, rfl, rfl, rfl, rfl, fun i j _ _ => .inr rfl⟩
                    · exact ⟨rfl, rfl, rfl, rfl, rfl, fun i j _ _ => .inr rfl⟩
                    · exact ⟨rfl, rfl, rfl, rfl, rfl, fun a b ha hb => ren_self (goodS rfl) hb (by have ha : a < i := ha; omega) rfl⟩
                  · have g3 : ¬ x.q k < x.q (inn x t (simS x i t) k).2.toNat := of_decide_eq_false g3
                    have hs : inn x t (simS x i t) (k + 1) = ((inn x t (simS x i t) k).1, (inn x t (simS x i t) k).2) := by
                      show (relS x t k (inn x t (simS x i t) k).1, pick x (relS x t k (inn x t (simS x i t) k).1) k (inn x t (simS x i t) k).2) = _
                      rw [show relS x t k (inn x t (simS x i t) k).1 = (inn x t (simS x i t) k).1 from if_neg hdue]
                      unfold pick
                      rw [if_neg (fun q => q.2.elim g2 g3)]
                    refine ⟨(⟨k + 1, by omega⟩, e), by show i - (k + 1) < i - k; omega, ?_⟩
                    show Wk _ _ (st3 x i u t (k + 1) (e) (inn x t (simS x i t) (k + 1)))
                    rw [hs]
                    refine wk_of (src0 ++ qSome) rfl ⟨rfl, rfl, rfl, ⟨rfl, rfl⟩, ⟨rfl, rfl⟩, ⟨rfl, rfl⟩, ⟨rfl, rfl⟩, ⟨rfl, rfl⟩, ⟨wrS (show k < 4611686018427387904 by omega), rfl⟩, trivial⟩ ⟨?_, ?_, ?_, RowLe.q rfl, RowLe.q rfl, RowLe.q rfl, RowLe.q rfl, RowLe.q rfl, RowLe.q rfl, RowLe.q rfl, RowLe.q rfl, trivial⟩
                    · exact ⟨rfl, rfl, rfl, rfl, rfl, fun i j _ _ => .inr rfl⟩
                    · exact ⟨rfl, rfl, rfl, rfl, rfl, fun i j _ _ => .inr rfl⟩
                    · exact ⟨rfl, rfl, rfl, rfl, rfl, fun a b ha hb => ren_self (goodS rfl) hb (by have ha : a < i := ha; omega) rfl⟩
              · have g1 : ¬ (0 : Int) < ((((inn x t (simS x i t) k).1).qn k : Nat) : Int) := of_decide_eq_false g1
                have hs : inn x t (simS x i t) (k + 1) = ((inn x t (simS x i t) k).1, (inn x t (simS x i t) k).2) := by
                  show (relS x t k (inn x t (simS x i t) k).1, pick x (relS x t k (inn x t (simS x i t) k).1) k (inn x t (simS x i t) k).2) = _
                  rw [show relS x t k (inn x t (simS x i t) k).1 = (inn x t (simS x i t) k).1 from if_neg hdue]
                  unfold pick
                  rw [if_neg (fun q => g1 (by omega))]
                refine ⟨(⟨k + 1, by omega⟩, e), by show i - (k + 1) < i - k; omega, ?_⟩
                show Wk _ _ (st3 x i u t (k + 1) (e) (inn x t (simS x i t) (k + 1)))
                rw [hs]
                refine wk_of (src0 ++ qSome) rfl ⟨rfl, rfl, rfl, ⟨rfl, rfl⟩, ⟨rfl, rfl⟩, ⟨rfl, rfl⟩, ⟨rfl, rfl⟩, ⟨rfl, rfl⟩, ⟨wrS (show k < 4611686018427387904 by omega), rfl⟩, trivial⟩ ⟨?_, ?_, ?_, RowLe.q rfl, RowLe.q rfl, RowLe.q rfl, RowLe.q rfl, RowLe.q rfl, RowLe.q rfl, RowLe.q rfl, RowLe.q rfl, trivial⟩
                · exact ⟨rfl, rfl, rfl, rfl, rfl, fun i j _ _ => .inr rfl⟩
                · exact ⟨rfl, rfl, rfl, rfl, rfl, fun i j _ _ => .inr rfl⟩
                · exact ⟨rfl, rfl, rfl, rfl, rfl, fun a b ha hb => ren_self (goodS rfl) hb (by have ha : a < i := ha; omega) rfl⟩
          · have hdue : ¬ due x t k := fun q => by
              have h1 : ¬ x.o k ≤ (t : Int) := of_decide_eq_false h1
              exact h1 q.1
            refine Brn.mk (fun g1 => ?_) (fun g1 => ?_)
            · have g1 : (0 : Int) < ((((inn x t (simS x i t) k).1).qn k : Nat) : Int) := of_decide_eq_true g1
              refine Brn.mk (fun g2 => ?_) (fun g2 => ?_)
              · have g2 : (inn x t (simS x i t) k).2 < 0 := of_decide_eq_true g2
                have hs : inn x t (simS x i t) (k + 1) = ((inn x t (simS x i t) k).1, (k : Int)) := by
                  show (relS x t k (inn x t (simS x i t) k).1, pick x (relS x t k (inn x t (simS x i t) k).1) k (inn x t (simS x i t) k).2) = _
                  rw [show relS x t k (inn x t (simS x i t) k).1 = (inn x t (simS x i t) k).1 from if_neg hdue]
                  unfold pick
                  rw [if_pos ⟨by omega, .inl g2⟩]
                refine ⟨(⟨k + 1, by omega⟩, e), by show i - (k + 1) < i - k; omega, ?_⟩
                show Wk _ _ (st3 x i u t (k + 1) (e) (inn x t (simS x i t) (k + 1)))
                rw [hs]
                refine wk_of (src0 ++ qSome) rfl ⟨rfl, rfl, rfl, ⟨rfl, rfl⟩, ⟨rfl, rfl⟩, ⟨rfl, rfl⟩, ⟨rfl, rfl⟩, ⟨rfl, rfl⟩, ⟨wrS (show k < 4611686018427387904 by omega), rfl⟩, trivial⟩ ⟨?_, ?_, ?_, RowLe.q rfl, RowLe.q rfl, RowLe.q rfl, RowLe.q rfl, RowLe.q rfl, RowLe.q rfl, RowLe.q rfl, RowLe.q rfl, trivial⟩
                · exact ⟨rfl, rfl, rfl, rfl, rfl, fun i j _ _ => .inr rfl⟩
                · exact ⟨rfl, rfl, rfl, rfl, rfl, fun i j _ _ => .inr rfl⟩
                · exact ⟨rfl, rfl, rfl, rfl, rfl, fun a b ha hb => ren_self (goodS rfl) hb (by have ha : a < i := ha; omega) rfl⟩
              · have g2 : ¬ (inn x t (simS x i t) k).2 < 0 := of_decide_eq_false g2
                have hR2 := hR.hi
                refine Chk.mk (show 0 ≤ (inn x t (simS x i t) k).2 ∧ (inn x t (simS x i t) k).2 < (i : Int) from ⟨by omega, by omega⟩) ?_
                refine Brn.mk (fun g3 => ?_) (fun g3 => ?_)
                · have g3 : x.q k < x.q (inn x t (simS x i t) k).2.toNat := of_decide_eq_true g3
                  have hs : inn x t (simS x i t) (k + 1) = ((inn x t (simS x i t) k).1, (k : Int)) := by
                    show (relS x t k (inn x t (simS x i t) k).1, pick x (relS x t k (inn x t (simS x i t) k).1) k (inn x t (simS x i t) k).2) = _
                    rw [show relS x t k (inn x t (simS x i t) k).1 = (inn x t (simS x i t) k).1 from if_neg hdue]
                    unfold pick
                    rw [if_pos ⟨by omega, .inr g3⟩]
                  refine ⟨(⟨k + 1, by omega⟩, e), by show i - (k + 1) < i - k; omega, ?_⟩
                  show Wk _ _ (st3 x i u t (k + 1) (e) (inn x t (simS x i t) (k + 1)))
                  rw [hs]
                  refine wk_of (src0 ++ qSome) rfl ⟨rfl, rfl, rfl, ⟨rfl, rfl⟩, ⟨rfl, rfl⟩, ⟨rfl, rfl⟩, ⟨rfl, rfl⟩, ⟨rfl, rfl⟩, ⟨wrS (show k < 4611686018427387904 by omega), rfl⟩, trivial⟩ ⟨?_, ?_, ?_, RowLe.q rfl, RowLe.q rfl, RowLe.q rfl, RowLe.q rfl, RowLe.q rfl, RowLe.q rfl, RowLe.q rfl, RowLe.q rfl, trivial⟩
                  · exact ⟨rfl, rfl, rfl, rfl, rfl, fun i j _ _ => .inr rfl⟩
                  · exact ⟨rfl, rfl, rfl, rfl, rfl, fun i j _ _ => .inr rfl⟩
                  · exact ⟨rfl, rfl, rfl, rfl, rfl, fun a b ha hb => ren_self (goodS rfl) hb (by have ha : a < i := ha; omega) rfl⟩
                · have g3 : ¬ x.q k < x.q (inn x t (simS x i t) k).2.toNat := of_decide_eq_false g3
                  have hs : inn x t (simS x i t) (k + 1) = ((inn x t (simS x i t) k).1, (inn x t (simS x i t) k).2) := by
                    show (relS x t k (inn x t (simS x i t) k).1, pick x (relS x t k (inn x t (simS x i t) k).1) k (inn x t (simS x i t) k).2) = _
                    rw [show relS x t k (inn x t (simS x i t) k).1 = (inn x t (simS x i t) k).1 from if_neg hdue]
                    unfold pick
                    rw [if_neg (fun q => q.2.elim g2 g3)]
                  refine ⟨(⟨k + 1, by omega⟩, e), by show i - (k + 1) < i - k; omega, ?_⟩
                  show Wk _ _ (st3 x i u t (k + 1) (e) (inn x t (simS x i t) (k + 1)))
                  rw [hs]
                  refine wk_of (src0 ++ qSome) rfl ⟨rfl, rfl, rfl, ⟨rfl, rfl⟩, ⟨rfl, rfl⟩, ⟨rfl, rfl⟩, ⟨rfl, rfl⟩, ⟨rfl, rfl⟩, ⟨wrS (show k < 4611686018427387904 by omega), rfl⟩, trivial⟩ ⟨?_, ?_, ?_, RowLe.q rfl, RowLe.q rfl, RowLe.q rfl, RowLe.q rfl, RowLe.q rfl, RowLe.q rfl, RowLe.q rfl, RowLe.q rfl, trivial⟩
                  · exact ⟨rfl, rfl, rfl, rfl, rfl, fun i j _ _ => .inr rfl⟩
                  · exact ⟨rfl, rfl, rfl, rfl, rfl, fun i j _ _ => .inr rfl⟩
                  · exact ⟨rfl, rfl, rfl, rfl, rfl, fun a b ha hb => ren_self (goodS rfl) hb (by have ha : a < i := ha; omega) rfl⟩
            · have g1 : ¬ (0 : Int) < ((((inn x t (simS x i t) k).1).qn k : Nat) : Int) := of_decide_eq_false g1
              have hs : inn x t (simS x i t) (k + 1) = ((inn x t (simS x i t) k).1, (inn x t (simS x i t) k).2) := by
                show (relS x t k (inn x t (simS x i t) k).1, pick x (relS x t k (inn x t (simS x i t) k).1) k (inn x t (simS x i t) k).2) = _
                rw [show relS x t k (inn x t (simS x i t) k).1 = (inn x t (simS x i t) k).1 from if_neg hdue]
                unfold pick
                rw [if_neg (fun q => g1 (by omega))]
              refine ⟨(⟨k + 1, by omega⟩, e), by show i - (k + 1) < i - k; omega, ?_⟩
              show Wk _ _ (st3 x i u t (k + 1) (e) (inn x t (simS x i t) (k + 1)))
              rw [hs]
              refine wk_of (src0 ++ qSome) rfl ⟨rfl, rfl, rfl, ⟨rfl, rfl⟩, ⟨rfl, rfl⟩, ⟨rfl, rfl⟩, ⟨rfl, rfl⟩, ⟨rfl, rfl⟩, ⟨wrS (show k < 4611686018427387904 by omega), rfl⟩, trivial⟩ ⟨?_, ?_, ?_, RowLe.q rfl, RowLe.q rfl, RowLe.q rfl, RowLe.q rfl, RowLe.q rfl, RowLe.q rfl, RowLe.q rfl, RowLe.q rfl, trivial⟩
              · exact ⟨rfl, rfl, rfl, rfl, rfl, fun i j _ _ => .inr rfl⟩
              · exact ⟨rfl, rfl, rfl, rfl, rfl, fun i j _ _ => .inr rfl⟩
              · exact ⟨rfl, rfl, rfl, rfl, rfl, fun a b ha hb => ren_self (goodS rfl) hb (by have ha : a < i := ha; omega) rfl⟩
        · have hki : k = i := by have : ¬ k < i := dec_nlt h; omega
          subst hki
          refine Chk.mk ⟨by show (t + 1) * 8 ≤ 140737488355328; omega, by show t + 1 ≤ 9223372036854775807; omega⟩ ?_
          refine Brn.mk (fun g0 => ?_) (fun g0 => ?_)
          · have g0 : (inn x t (simS x k t) k).2 < 0 := of_decide_eq_true g0
            have hs : simS x k (t + 1) = (inn x t (simS x k t) k).1 := if_pos g0
            refine ⟨(⟨t + 1, by omega⟩, e), by show u - (t + 1) < u - t; omega, ?_⟩
            show Wk _ _ (st2 x k u (t + 1) e (simS x k (t + 1)))
            rw [hs]
            refine wk_of (src4 ++ qSome) rfl ⟨rfl, rfl, rfl, ⟨rfl, rfl⟩, ⟨wrS (show t < 4611686018427387904 by omega), rfl⟩, trivial⟩ ⟨?_, ?_, ?_, RowLe.q rfl, RowLe.q rfl, RowLe.q rfl, RowLe.q rfl, RowLe.q rfl, RowLe.q rfl, RowLe.q rfl, RowLe.q rfl, trivial⟩
            · exact ⟨rfl, rfl, rfl, rfl, rfl, fun i j _ _ => .inr rfl⟩
            · exact ⟨rfl, rfl, rfl, rfl, rfl, fun i j _ _ => .inl rfl⟩
            · exact ⟨rfl, rfl, rfl, rfl, rfl, fun a b ha hb => ren_self (goodS rfl) hb (by have ha : a < k := ha; omega) rfl⟩
          · have g0 : ¬ (inn x t (simS x k t) k).2 < 0 := of_decide_eq_false g0
            have hRl := hR.hi
            have hRq := hR.q (by omega)
            have hRn : (inn x t (simS x k t) k).2.toNat < k := by omega
            have hqq := hW.q _ hRn 0 hRq
            have hlf := hW.lf _ hRn
            have hwr : wr ((inn x t (simS x k t) k).1.lf (inn x t (simS x k t) k).2.toNat - 1) = (inn x t (simS x k t) k).1.lf (inn x t (simS x k t) k).2.toNat - 1 := wr_id (by omega) (by omega)
            refine Chk.mk (show 0 ≤ (inn x t (simS x k t) k).2 ∧ (inn x t (simS x k t) k).2 < (k : Int) from ⟨by omega, by omega⟩) ?_
            refine Chk.mk (show (0 : Int) ≤ 0 ∧ (0 : Int) < (((inn x t (simS x k t) k).1.qn (inn x t (simS x k t) k).2.toNat : Nat) : Int) from ⟨by omega, by omega⟩) ?_
            refine Chk.mk (show 0 ≤ (inn x t (simS x k t) k).1.qf (inn x t (simS x k t) k).2.toNat 0 ∧ (inn x t (simS x k t) k).1.qf (inn x t (simS x k t) k).2.toNat 0 < (((inn x t (simS x k t) k).1.jn : Nat) : Int) from hqq) ?_
            refine Brn.mk (fun g2 => ?_) (fun g2 => ?_)
            · have g2 : (inn x t (simS x k t) k).1.js ((inn x t (simS x k t) k).1.qf (inn x t (simS x k t) k).2.toNat 0).toNat < 0 := of_decide_eq_true g2
              conv =>
                whnf
                arg 2
                rw [ldL]
              refine Brn.mk (fun g4 => ?_) (fun g4 => ?_)
              · have g4 : wr ((inn x t (simS x k t) k).1.lf (inn x t (simS x k t) k).2.toNat - 1) = 0 := of_decide_eq_true g4
                rw [hwr] at g4
                refine Chk.mk (show (0 : Int) ≤ 1 ∧ (1 : Int) ≤ (((inn x t (simS x k t) k).1.qn (inn x t (simS x k t) k).2.toNat : Nat) : Int) from ⟨by omega, by omega⟩) ?_
                have hs : simS x k (t + 1) = runS x t (inn x t (simS x k t) k).2.toNat (inn x t (simS x k t) k).1 := if_neg g0
                refine ⟨(⟨t + 1, by omega⟩, e), by show u - (t + 1) < u - t; omega, ?_⟩
                show Wk _ _ (st2 x k u (t + 1) e (simS x k (t + 1)))
                rw [hs]
                refine wk_of (src4 ++ qSome) rfl ⟨rfl, rfl, rfl, ⟨rfl, rfl⟩, ⟨wrS (show t < 4611686018427387904 by omega), rfl⟩, trivial⟩ ⟨?_, ?_, ?_, RowLe.q rfl, RowLe.q rfl, RowLe.q rfl, RowLe.q rfl, RowLe.q rfl, RowLe.q rfl, RowLe.q rfl, RowLe.q rfl, trivial⟩
                · refine ⟨rfl, rfl, rfl, rfl, rfl, fun a b _ hb => .inr (job_run x t _ _ _ (fun a b hne => (updF_out (fun h => hne h.1)).trans (updF_out (fun h => hne h.1))) ?_ a b hb).symm⟩
                  refine ⟨⟨⟨⟨trivial, rfl⟩, rfl⟩, ?_⟩, ?_⟩
                  · show _ = AV.int .i64 (if (inn x t (simS x k t) k).1.js ((inn x t (simS x k t) k).1.qf (inn x t (simS x k t) k).2.toNat 0).toNat < 0 then (t : Int) else (inn x t (simS x k t) k).1.js ((inn x t (simS x k t) k).1.qf (inn x t (simS x k t) k).2.toNat 0).toNat)
                    rw [if_pos g2]
                    exact (upd_off (by decide)).trans upd_at
                  · show _ = AV.int .i64 (if (inn x t (simS x k t) k).1.lf (inn x t (simS x k t) k).2.toNat - 1 = 0 then (t : Int) + 1 else (inn x t (simS x k t) k).1.jf ((inn x t (simS x k t) k).1.qf (inn x t (simS x k t) k).2.toNat 0).toNat)
                    rw [if_pos g4]
                    exact upd_at.trans (wrS (show t < 4611686018427387904 by omega))
                · exact ⟨rfl, rfl, rfl, rfl, rfl, fun i j _ _ => .inl rfl⟩
                · exact ⟨rfl, rfl, rfl, rfl, rfl, fun a b ha hb => ren_run1 (goodS rfl) hb (by have ha : a < k := ha; omega) g4 rfl (fun j => by show AV.int .i64 _ = AV.int .i64 _; congr 2; omega)⟩
              · have g4 : ¬ wr ((inn x t (simS x k t) k).1.lf (inn x t (simS x k t) k).2.toNat - 1) = 0 := of_decide_eq_false g4
                rw [hwr] at g4
                have hs : simS x k (t + 1) = runS x t (inn x t (simS x k t) k).2.toNat (inn x t (simS x k t) k).1 := if_neg g0
                refine ⟨(⟨t + 1, by omega⟩, e), by show u - (t + 1) < u - t; omega, ?_⟩
                show Wk _ _ (st2 x k u (t + 1) e (simS x k (t + 1)))
                rw [hs]
                refine wk_of (src4 ++ qSome) rfl ⟨rfl, rfl, rfl, ⟨rfl, rfl⟩, ⟨wrS (show t < 4611686018427387904 by omega), rfl⟩, trivial⟩ ⟨?_, ?_, ?_, RowLe.q rfl, RowLe.q rfl, RowLe.q rfl, RowLe.q rfl, RowLe.q rfl, RowLe.q rfl, RowLe.q rfl, RowLe.q rfl, trivial⟩
                · refine ⟨rfl, rfl, rfl, rfl, rfl, fun a b _ hb => .inr (job_run x t _ _ _ (fun a b hne => updF_out (fun h => hne h.1)) ?_ a b hb).symm⟩
                  refine ⟨⟨⟨⟨trivial, rfl⟩, rfl⟩, ?_⟩, ?_⟩
                  · show _ = AV.int .i64 (if (inn x t (simS x k t) k).1.js ((inn x t (simS x k t) k).1.qf (inn x t (simS x k t) k).2.toNat 0).toNat < 0 then (t : Int) else (inn x t (simS x k t) k).1.js ((inn x t (simS x k t) k).1.qf (inn x t (simS x k t) k).2.toNat 0).toNat)
                    rw [if_pos g2]
                    exact upd_at
                  · show _ = AV.int .i64 (if (inn x t (simS x k t) k).1.lf (inn x t (simS x k t) k).2.toNat - 1 = 0 then (t : Int) + 1 else (inn x t (simS x k t) k).1.jf ((inn x t (simS x k t) k).1.qf (inn x t (simS x k t) k).2.toNat 0).toNat)
                    rw [if_neg g4]
                    exact upd_off (by decide)
                · exact ⟨rfl, rfl, rfl, rfl, rfl, fun i j _ _ => .inl rfl⟩
                · exact ⟨rfl, rfl, rfl, rfl, rfl, fun a b ha hb => ren_run0 (goodS rfl) hb (by have ha : a < k := ha; omega) hwr (by rw [hwr]; exact g4)⟩
            · have g2 : ¬ (inn x t (simS x k t) k).1.js ((inn x t (simS x k t) k).1.qf (inn x t (simS x k t) k).2.toNat 0).toNat < 0 := of_decide_eq_false g2
              conv =>
                whnf
                arg 2
                rw [ldL]
              refine Brn.mk (fun g4 => ?_) (fun g4 => ?_)
              · have g4 : wr ((inn x t (simS x k t) k).1.lf (inn x t (simS x k t) k).2.toNat - 1) = 0 := of_decide_eq_true g4
                rw [hwr] at g4
                refine Chk.mk (show (0 : Int) ≤ 1 ∧ (1 : Int) ≤ (((inn x t (simS x k t) k).1.qn (inn x t (simS x k t) k).2.toNat : Nat) : Int) from ⟨by omega, by omega⟩) ?_
                have hs : simS x k (t + 1) = runS x t (inn x t (simS x k t) k).2.toNat (inn x t (simS x k t) k).1 := if_neg g0
                refine ⟨(⟨t + 1, by omega⟩, e), by show u - (t + 1) < u - t; omega, ?_⟩
                show Wk _ _ (st2 x k u (t + 1) e (simS x k (t + 1)))
                rw [hs]
                refine wk_of (src4 ++ qSome) rfl ⟨rfl, rfl, rfl, ⟨rfl, rfl⟩, ⟨wrS (show t < 4611686018427387904 by omega), rfl⟩, trivial⟩ ⟨?_, ?_, ?_, RowLe.q rfl, RowLe.q rfl, RowLe.q rfl, RowLe.q rfl, RowLe.q rfl, RowLe.q rfl, RowLe.q rfl, RowLe.q rfl, trivial⟩
                · refine ⟨rfl, rfl, rfl, rfl, rfl, fun a b _ hb => .inr (job_run x t _ _ _ (fun a b hne => updF_out (fun h => hne h.1)) ?_ a b hb).symm⟩
                  refine ⟨⟨⟨⟨trivial, rfl⟩, rfl⟩, ?_⟩, ?_⟩
                  · show _ = AV.int .i64 (if (inn x t (simS x k t) k).1.js ((inn x t (simS x k t) k).1.qf (inn x t (simS x k t) k).2.toNat 0).toNat < 0 then (t : Int) else (inn x t (simS x k t) k).1.js ((inn x t (simS x k t) k).1.qf (inn x t (simS x k t) k).2.toNat 0).toNat)
                    rw [if_neg g2]
                    exact upd_off (by decide)
                  · show _ = AV.int .i64 (if (inn x t (simS x k t) k).1.lf (inn x t (simS x k t) k).2.toNat - 1 = 0 then (t : Int) + 1 else (inn x t (simS x k t) k).1.jf ((inn x t (simS x k t) k).1.qf (inn x t (simS x k t) k).2.toNat 0).toNat)
                    rw [if_pos g4]
                    exact upd_at.trans (wrS (show t < 4611686018427387904 by omega))
                · exact ⟨rfl, rfl, rfl, rfl, rfl, fun i j _ _ => .inl rfl⟩
                · exact ⟨rfl, rfl, rfl, rfl, rfl, fun a b ha hb => ren_run1 (goodS rfl) hb (by have ha : a < k := ha; omega) g4 rfl (fun j => by show AV.int .i64 _ = AV.int .i64 _; congr 2; omega)⟩
              · have g4 : ¬ wr ((inn x t (simS x k t) k).1.lf (inn x t (simS x k t) k).2.toNat - 1) = 0 := of_decide_eq_false g4
                rw [hwr] at g4
                have hs : simS x k (t + 1) = runS x t (inn x t (simS x k t) k).2.toNat (inn x t (simS x k t) k).1 := if_neg g0
                refine ⟨(⟨t + 1, by omega⟩, e), by show u - (t + 1) < u - t; omega, ?_⟩
                show Wk _ _ (st2 x k u (t + 1) e (simS x k (t + 1)))
                rw [hs]
                refine wk_of (src4 ++ qSome) rfl ⟨rfl, rfl, rfl, ⟨rfl, rfl⟩, ⟨wrS (show t < 4611686018427387904 by omega), rfl⟩, trivial⟩ ⟨?_, ?_, ?_, RowLe.q rfl, RowLe.q rfl, RowLe.q rfl, RowLe.q rfl, RowLe.q rfl, RowLe.q rfl, RowLe.q rfl, RowLe.q rfl, trivial⟩
                · refine ⟨rfl, rfl, rfl, rfl, rfl, fun a b _ hb => .inr (job_run x t _ _ _ (fun a b hne => rfl) ?_ a b hb).symm⟩
                  refine ⟨⟨⟨⟨trivial, rfl⟩, rfl⟩, ?_⟩, ?_⟩
                  · show _ = AV.int .i64 (if (inn x t (simS x k t) k).1.js ((inn x t (simS x k t) k).1.qf (inn x t (simS x k t) k).2.toNat 0).toNat < 0 then (t : Int) else (inn x t (simS x k t) k).1.js ((inn x t (simS x k t) k).1.qf (inn x t (simS x k t) k).2.toNat 0).toNat)
                    rw [if_neg g2]
                    rfl
                  · show _ = AV.int .i64 (if (inn x t (simS x k t) k).1.lf (inn x t (simS x k t) k).2.toNat - 1 = 0 then (t : Int) + 1 else (inn x t (simS x k t) k).1.jf ((inn x t (simS x k t) k).1.qf (inn x t (simS x k t) k).2.toNat 0).toNat)
                    rw [if_neg g4]
                    rfl
                · exact ⟨rfl, rfl, rfl, rfl, rfl, fun i j _ _ => .inl rfl⟩
                · exact ⟨rfl, rfl, rfl, rfl, rfl, fun a b ha hb => ren_run0 (goodS rfl) hb (by have ha : a < k := ha; omega) hwr (by rw [hwr]; exact g4)⟩
      · have hge : ¬ t < u := dec_nlt h
        have : t = u := by omega
        subst this
        refine AVle.tup2 ?_ ?_
        · exact fun _ _ _ _ => by simp only [Rep2, Rep1]
        · exact le2_sl .refl
  · trivial
end
end Go.Proofs.Ytbhbjmneglkgnaa.Img
