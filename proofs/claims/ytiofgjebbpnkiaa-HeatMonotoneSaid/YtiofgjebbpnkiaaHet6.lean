/- Layer 30: the statements' helpers. Conditions: none. -/
import Derived.Test.YtiofgjebbpnkiaaHet5
import Derived.ProofKit
namespace Go.Proofs.Ytiofgjebbpnkiaa.Img
open Go Go.Proofs.Ytiofgjebbpnkiaa.AI Go.Proofs
noncomputable section
set_option maxRecDepth 100000
def largeB (n na nl : Nat) : Bool := decide (50 < (n : Int)) || decide (50 < (na : Int)) || decide (50 < (nl : Int))
def sLarge : Sp
  | [.agg [.sl _ n _, .sl _ na _, .sl _ nl _]] => .ok (.bit (largeB n na nl))
  | _ => .no
theorem okLarge : EntOK Try.prog TE 12 sLarge := by
  refine ⟨callable_of Try.func12 (by kernel_rfl), fun args => ?_⟩
  unfold sLarge
  split
  · refine fn_ofF tabsOK specOK_nil mixed Try.func12 (by kernel_rfl) ?_
    refine Brn.mk (fun h => ?_) (fun h => ?_)
    · refine AVle.bit ?_
      rw [largeB, h]; rfl
    refine Brn.mk (fun h2 => ?_) (fun h2 => ?_)
    · refine AVle.bit ?_
      rw [largeB, h, h2]; rfl
    · refine AVle.bit ?_
      rw [largeB, h, h2]; rfl
  · trivial
def fitsB (n na nl : Nat) (e : Int) (hn pn : Nat) : Bool := !largeB n na nl && (decide (e = 0) && (decide ((hn : Int) = n) && decide ((pn : Int) = n)))
def sFits : Sp
  | [.agg [.sl s1 n gf, .sl s2 na af, .sl s3 nl lf], .agg [.sl _ hn _, .sl _ pn _, .int .i64 _]] =>
    .pre (IsI s1 n gf ∧ IsI s2 na af ∧ IsV s3 nl lf) (.bit (fitsB n na nl (hchk n na nl (vI gf) (vI af) (vN lf) (vII lf)) hn pn))
  | _ => .no
theorem okFits : EntOK Try.prog TE 19 sFits := by
  refine ⟨callable_of Try.func19 (by kernel_rfl), fun args => ?_⟩
  unfold sFits
  split
  · rename_i s1 n gf s2 na af s3 nl lf _ hn _ _ pn _ _
    rintro ⟨h1, h2, h3⟩
    refine fn_ofF tabsOK (specOK_cons okLarge (specOK_cons okHChkR specOK_nil)) mixed Try.func19 (by kernel_rfl) ?_
    generalize hr : hchk n na nl (vI gf) (vI af) (vN lf) (vII lf) = e
    refine Brn.mk (fun q1 => ?_) (fun q1 => ?_)
    · refine Chk.mk ⟨h1, h2, h3⟩ ?_
      refine Brn.mk (fun q2 => ?_) (fun q2 => ?_)
      · have q2 : hchk n na nl (vI gf) (vI af) (vN lf) (vII lf) = 0 := of_decide_eq_true q2
        have q2 : e = 0 := hr.symm.trans q2
        refine Brn.mk (fun q3 => ?_) (fun q3 => ?_)
        · refine AVle.bit ?_
          rw [fitsB, q1, decide_eq_true q2, q3]; rfl
        · refine AVle.bit ?_
          rw [fitsB, q1, decide_eq_true q2, q3]; rfl
      · have q2 : ¬ hchk n na nl (vI gf) (vI af) (vN lf) (vII lf) = 0 := of_decide_eq_false q2
        refine AVle.bit ?_
        rw [fitsB, q1, decide_eq_false (by rw [← hr]; exact q2)]; rfl
    · refine AVle.bit ?_
      rw [fitsB, q1]; rfl
  · trivial
def sTick : Sp
  | [.agg [.sl s1 n gf, .sl s2 na af, .sl s3 nl lf], .agg [.sl s4 hn hf, .sl s5 pn pf, .int .i64 amb]] =>
    .pre ((IsI s1 n gf ∧ IsI s2 na af ∧ IsV s3 nl lf) ∧ IsI s4 hn hf ∧ IsI s5 pn pf)
      (.tup [.sl 1 (outN (stepErr (hchk n na nl (vI gf) (vI af) (vN lf) (vII lf)) n hn pn) n) (fun i _ => .int .i64 (stepR n (vI gf) (vI af) (vII lf) (vI hf) (vI pf) amb i)), .bit (decide (stepErr (hchk n na nl (vI gf) (vI af) (vN lf) (vII lf)) n hn pn = 0))])
  | _ => .no
theorem stepErr_zero {c : Int} {n hn pn : Nat} (h : stepErr c n hn pn = 0) : c = 0 ∧ hn = n ∧ pn = n := by
  unfold stepErr at h
  split at h
  · rename_i hc
    split at h
    · rename_i h2
      exact ⟨hc, h2⟩
    · omega
  · rename_i hc
    exact absurd h hc
theorem okTick : EntOK Try.prog TE 20 sTick := by
  refine ⟨callable_of Try.func20 (by kernel_rfl), fun args => ?_⟩
  unfold sTick
  split
  · rename_i s1 n gf s2 na af s3 nl lf s4 hn hf s5 pn pf amb
    rintro ⟨⟨h1, h2, h3⟩, h4, h5⟩
    refine fn_ofF tabsOK (specOK_cons okHStep specOK_nil) mixed Try.func20 (by kernel_rfl) ?_
    refine Chk.mk ⟨⟨h1, h2, h3⟩, h4, h5⟩ ?_
    refine Brn.mk (fun q => ?_) (fun q => ?_)
    · have q : stepErr (hchk n na nl (vI gf) (vI af) (vN lf) (vII lf)) n hn pn = 0 := of_decide_eq_true q
      refine AVle.tup2 .refl (.bit ?_)
      rw [q, decide_eq_true rfl]
      refine decide_eq_true ?_
      rw [(stepErr_zero q).2.1, outN, if_pos rfl]
    · have q : ¬ stepErr (hchk n na nl (vI gf) (vI af) (vN lf) (vII lf)) n hn pn = 0 := of_decide_eq_false q
      refine AVle.tup2 .refl (.bit ?_)
      rw [decide_eq_false q]
  · trivial
def two (a b : Int) (i : Nat) : Int := match i with | 0 => a | _ => b
def exL (i j : Nat) : Int := match i, j with | 0, 1 => 4096 | 1, 0 => 4096 | _, _ => 0
def sEx : Sp
  | [] => .ok (.agg (cfgL 2 2 2 (two 2 0) (two 0 1024) (fun _ => 2) exL))
  | _ => .no
theorem okEx : EntOK Try.prog TE 28 sEx := by
  refine ⟨callable_of Try.func28 (by kernel_rfl), fun args => ?_⟩
  unfold sEx
  split
  · refine fn_ofF tabsOK specOK_nil mixed Try.func28 (by kernel_rfl) ?_
    refine AVle.of2 rfl rfl (AVle2.aggL ⟨Le1.slFin rfl ?_, Le1.slFin rfl ?_, Le1.slFin rfl ?_, trivial⟩)
    · exact ⟨⟨trivial, ⟨trivial, Le1.of_eq (by kernel_rfl)⟩⟩, ⟨trivial, Le1.of_eq (by kernel_rfl)⟩⟩
    · exact ⟨⟨trivial, ⟨trivial, Le1.of_eq (by kernel_rfl)⟩⟩, ⟨trivial, Le1.of_eq (by kernel_rfl)⟩⟩
    · refine ⟨⟨trivial, ⟨trivial, ?_⟩⟩, ⟨trivial, ?_⟩⟩
      · exact Le1.slFin rfl ⟨⟨trivial, ⟨trivial, Le1.of_eq (by kernel_rfl)⟩⟩, ⟨trivial, Le1.of_eq (by kernel_rfl)⟩⟩
      · exact Le1.slFin rfl ⟨⟨trivial, ⟨trivial, Le1.of_eq (by kernel_rfl)⟩⟩, ⟨trivial, Le1.of_eq (by kernel_rfl)⟩⟩
  · trivial
def sAwake : Sp
  | [] => .okb true
  | _ => .no
theorem okAwake : EntOK Try.prog TE 11 sAwake := by
  refine ⟨callable_of Try.func11 (by kernel_rfl), fun args => ?_⟩
  unfold sAwake
  split
  · refine fn_ofF tabsOK (specOK_cons okEx (specOK_cons okHStep (specOK_cons okInts specOK_nil))) mixed Try.func11 (by kernel_rfl) ?_
    refine Chk.mk ⟨⟨isI_mk, isI_mk, isV_mk⟩, isI_fin (two 65536000 0) (by kernel_rfl) ⟨⟨trivial, by show _ = _; kernel_rfl⟩, by show _ = _; kernel_rfl⟩, isI_fin (two 100 0) (by kernel_rfl) ⟨⟨trivial, by show _ = _; kernel_rfl⟩, by show _ = _; kernel_rfl⟩⟩ ?_
    refine Brn.mk (fun q => ?_) (fun q => ?_)
    · refine Chk.mk ⟨isI_mk, isI_fin (two 61440200 4096000) (by kernel_rfl) ⟨⟨trivial, by show _ = _; kernel_rfl⟩, by show _ = _; kernel_rfl⟩, by decide +kernel, by decide +kernel⟩ ?_
      refine AVle.bit ?_
      kernel_rfl
    · exact absurd q (by decide +kernel)
  · trivial

def E0 : Env := env TE tabs []
theorem own0 : ownKnob Try.prog.godebug = none := by kernel_rfl
theorem laidOut0 : Go.laidOutB Try.prog = true := by kernel_rfl
theorem tabE0 : TabOK Try.prog E0 := tabOK_of tabsOK
theorem openI {l : List AV} {d : Nat} (h : Arg E0 (d + 1) 3 l) : ∃ g, l = [.int .i64 g] ∧ InR g := by
  obtain ⟨g, rfl, hg⟩ := h
  exact ⟨g, rfl, inR_of hg⟩
theorem openS {l : List AV} {d : Nat} (h : Arg E0 (d + 2) 22 l) : ∃ k f, l = [.sl 1 k f] ∧ Ints k f ∧ (∀ i, i < k → InR (vI f i)) ∧ k ≤ 9223372036854775807 := by
  obtain ⟨k, f, rfl, hk, hf⟩ := h
  have hz : ∀ i, i < k → ∃ z, f i 0 = .int .i64 z ∧ InR z := fun i hi => by
    obtain ⟨z, h1, h2⟩ := hf i hi
    exact ⟨z, (List.cons.inj h1).1, inR_of h2⟩
  refine ⟨k, f, rfl, fun i hi => ?_, fun i hi => ?_, hk⟩
  · obtain ⟨z, h1, _⟩ := hz i hi
    rw [vI, h1]; rfl
  · obtain ⟨z, h1, h2⟩ := hz i hi
    rw [vI, h1]; exact h2
theorem openSS {l : List AV} {d : Nat} (h : Arg E0 (d + 3) 23 l) : ∃ k f, l = [.sl 1 k f] ∧ IsV 1 k f ∧ (∀ i j, i < k → j < vN f i → InR (vII f i j)) ∧ k ≤ 9223372036854775807 := by
  obtain ⟨k, f, rfl, hk, hf⟩ := h
  have hz : ∀ i, i < k → ∃ n g, f i 0 = .sl 1 n g ∧ Ints n g ∧ (∀ j, j < n → InR (vI g j)) := fun i hi => by
    obtain ⟨n, g, h1, h2, h3, _⟩ := openS (hf i hi)
    exact ⟨n, g, (List.cons.inj h1).1, h2, h3⟩
  refine ⟨k, f, rfl, ⟨rfl, fun i hi => ?_⟩, fun i j hi hj => ?_, hk⟩
  · obtain ⟨n, g, h1, h2, _⟩ := hz i hi
    rw [vN, h1]; exact ⟨rfl, h2⟩
  · obtain ⟨n, g, h1, _, h3⟩ := hz i hi
    rw [vN, h1] at hj
    rw [vII, h1]; exact h3 j hj
/-- What a configuration is. -/
theorem openC {l : List AV} (h : Arg E0 9 25 l) : ∃ n na nl gf af lf, l = [.sl 1 n gf, .sl 1 na af, .sl 1 nl lf] ∧ Ints n gf ∧ Ints na af ∧ IsV 1 nl lf := by
  obtain ⟨_, _, rfl, h1, _, _, rfl, h2, _, _, rfl, h3, rfl⟩ := h
  obtain ⟨n, gf, rfl, a1, _⟩ := openS h1
  obtain ⟨na, af, rfl, a2, _⟩ := openS h2
  obtain ⟨nl, lf, rfl, a3, _⟩ := openSS h3
  exact ⟨n, na, nl, gf, af, lf, rfl, a1, a2, a3⟩
theorem openCase {l : List AV} (h : Arg E0 9 34 l) : ∃ n m hf pf a, l = [.sl 1 n hf, .sl 1 m pf, .int .i64 a] ∧ Ints n hf ∧ Ints m pf ∧ InR a := by
  obtain ⟨_, _, rfl, h1, _, _, rfl, h2, _, _, rfl, h3, rfl⟩ := h
  obtain ⟨n, gf, rfl, a1, _⟩ := openS h1
  obtain ⟨na, af, rfl, a2, _⟩ := openS h2
  obtain ⟨a, rfl, a3⟩ := openI h3
  exact ⟨n, na, gf, af, a, rfl, a1, a2, a3⟩
end
end Go.Proofs.Ytiofgjebbpnkiaa.Img
