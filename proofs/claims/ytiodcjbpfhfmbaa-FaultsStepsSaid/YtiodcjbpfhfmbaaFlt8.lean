/- Chapter 48: what a law is handed. Conditions: none. -/
import Derived.Test.YtiodcjbpfhfmbaaFlt7
namespace Go.Proofs.Ytiodcjbpfhfmbaa.Img
open Go Go.Proofs.Ytiodcjbpfhfmbaa.AI Go.Proofs
noncomputable section
set_option maxRecDepth 100000
def InR (n : Int) : Prop := -9223372036854775808 ≤ n ∧ n ≤ 9223372036854775807
theorem openI {d : Nat} {l : List AV} (h : Arg E0 (d + 1) 3 l) : ∃ n, l = [.int .i64 n] ∧ InR n := by
  obtain ⟨z, rfl, hz⟩ := h
  refine ⟨z, rfl, ?_⟩
  simp [Lit.wf, IntKind.min, IntKind.max, IntKind.bits, IntKind.signed] at hz
  exact hz
theorem openU {d : Nat} {l : List AV} (h : Arg E0 (d + 1) 47 l) : ∃ n, l = [.int .u32 n] ∧ 0 ≤ n ∧ n ≤ 4294967295 := by
  obtain ⟨z, rfl, hz⟩ := h
  refine ⟨z, rfl, ?_⟩
  simp [Lit.wf, IntKind.min, IntKind.max, IntKind.bits, IntKind.signed] at hz
  exact hz
theorem openRul {d : Nat} {l : List AV} (h : Arg E0 (d + 3) 22 l) : ∃ n f, l = [.sl 2 n f] ∧ IsR 2 n f := by
  obtain ⟨n, f, rfl, _, hf⟩ := h
  refine ⟨n, f, rfl, rfl, fun i hi => ?_⟩
  obtain ⟨_, _, e1, h1, _, _, rfl, h2, rfl⟩ := hf i hi
  obtain ⟨a, rfl, _⟩ := openI h1
  obtain ⟨b, rfl⟩ := h2
  have e : [f i 0, f i 1] = [AV.int .i64 a, .bit b] := e1
  injection e with e1 e2
  injection e2 with e2 _
  exact ⟨by rw [vI, e1]; rfl, by rw [vL, e2]; rfl⟩
theorem openBs {d : Nat} {l : List AV} (h : Arg E0 (d + 2) 25 l) : ∃ n f, l = [.sl 1 n f] ∧ IsB 1 n f := by
  obtain ⟨n, f, rfl, _, hf⟩ := h
  refine ⟨n, f, rfl, rfl, fun i hi => ?_⟩
  obtain ⟨b, e⟩ := hf i hi
  have e : [f i 0] = [AV.bit b] := e
  injection e with e _
  rw [vB, e]; rfl
theorem openEs {d : Nat} {l : List AV} (h : Arg E0 (d + 3) 26 l) : ∃ n f, l = [.sl 2 n f] ∧ IsE 2 n f := by
  obtain ⟨n, f, rfl, _, hf⟩ := h
  refine ⟨n, f, rfl, rfl, fun i hi => ?_⟩
  obtain ⟨_, _, e1, h1, _, _, rfl, h2, rfl⟩ := hf i hi
  obtain ⟨a, rfl, _⟩ := openI h1
  obtain ⟨b, rfl, _⟩ := openI h2
  have e : [f i 0, f i 1] = [AV.int .i64 a, .int .i64 b] := e1
  injection e with e1 e2
  injection e2 with e2 _
  exact ⟨by rw [vI, e1]; rfl, by rw [vJ, e2]; rfl⟩
theorem openSt {d : Nat} {l : List AV} (h : Arg E0 (d + 5) 28 l) : ∃ na fa nh fh re tk k fg, l = [.sl 1 na fa, .sl 1 nh fh, .int .i64 re, .int .i64 tk, .sl 2 k fg] ∧ IsB 1 na fa ∧ IsB 1 nh fh ∧ IsE 2 k fg := by
  obtain ⟨_, _, rfl, h1, _, _, rfl, h2, _, _, rfl, h3, _, _, rfl, h4, _, _, rfl, h5, rfl⟩ := h
  obtain ⟨na, fa, rfl, ha⟩ := openBs h1
  obtain ⟨nh, fh, rfl, hh⟩ := openBs h2
  obtain ⟨re, rfl, _⟩ := openI h3
  obtain ⟨tk, rfl, _⟩ := openI h4
  obtain ⟨k, fg, rfl, hg⟩ := openEs h5
  exact ⟨na, fa, nh, fh, re, tk, k, fg, rfl, ha, hh, hg⟩
/-- Ticks. -/
def vP (f : Nat → Nat → AV) (i : Nat) : Bool := asB (f i 1)
def vQ (f : Nat → Nat → AV) (i : Nat) : Bool := asB (f i 2)
def tkF (w : Nat → Int) (p q : Nat → Bool) : Nat → Nat → AV := fun i j => nth [.int .u32 (w i), .bit (p i), .bit (q i)] j
theorem openTk {d : Nat} {l : List AV} (h : Arg E0 (d + 4) 44 l) : ∃ m f, l = [.sl 3 m f] ∧ ∀ (T : TypeId), Le1 T (.sl 3 m f) (.sl 3 m (tkF (vI f) (vP f) (vQ f))) := by
  obtain ⟨m, f, rfl, _, hf⟩ := h
  refine ⟨m, f, rfl, fun T => .sl rfl fun i j hi hj => .of_eq ?_⟩
  obtain ⟨_, _, e1, h1, _, _, rfl, h2, _, _, rfl, h3, rfl⟩ := hf i hi
  obtain ⟨a, rfl, _⟩ := openU h1
  obtain ⟨b, rfl⟩ := h2
  obtain ⟨c, rfl⟩ := h3
  have e : [f i 0, f i 1, f i 2] = [AV.int .u32 a, .bit b, .bit c] := e1
  injection e with e1 e2
  injection e2 with e2 e3
  injection e3 with e3 _
  match j, hj with
  | 0, _ => show f i 0 = .int .u32 (vI f i); rw [vI, e1]; rfl
  | 1, _ => show f i 1 = .bit (vP f i); rw [vP, e2]; rfl
  | 2, _ => show f i 2 = .bit (vQ f i); rw [vQ, e3]; rfl
theorem openUs {d : Nat} {l : List AV} (h : Arg E0 (d + 2) 54 l) : ∃ m f, l = [.sl 1 m f] ∧ ∀ (T : TypeId), Le1 T (.sl 1 m f) (.sl 1 m (fun i _ => .int .u32 (vI f i))) := by
  obtain ⟨m, f, rfl, _, hf⟩ := h
  refine ⟨m, f, rfl, fun T => .sl rfl fun i j hi hj => .of_eq ?_⟩
  obtain ⟨a, e, _⟩ := openU (hf i hi)
  have e : [f i 0] = [AV.int .u32 a] := e
  injection e with e _
  have : j = 0 := by omega
  subst this
  rw [vI, e]; rfl
theorem valid_ok {n m : Nat} {r : Nat → Int} (q : (!(decide ((n : Int) ≤ 100) && (decide ((m : Int) ≤ 300) && decide (rchk n r = 0)))) = false) : n ≤ 100 ∧ m ≤ 300 ∧ rchk n r = 0 := by
  simp only [Bool.not_eq_false', Bool.and_eq_true, decide_eq_true_eq] at q
  omega
end
end Go.Proofs.Ytiodcjbpfhfmbaa.Img
