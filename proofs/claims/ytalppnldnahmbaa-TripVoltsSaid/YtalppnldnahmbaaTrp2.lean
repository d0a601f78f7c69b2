/- Chapter 44: a tick. Conditions: none. -/
import Derived.Test.YtalppnldnahmbaaTrp1
namespace Go.Proofs.Ytalppnldnahmbaa.Img
open Go Go.Proofs.Ytalppnldnahmbaa.AI Go.Proofs
noncomputable section
set_option maxRecDepth 100000
def tcause (ov ds : Bool) (c d lt ht : Int) : Int := if ov = true then 1 else if ds = true then 2 else if c = lt then 3 else if d = ht then 4 else 0
def sCause : Sp
  | [.agg [.int .i64 cu, .int .i64 _, .int .i64 _, .int .i64 _, .int .i64 lt, .int .i64 ht], .agg [.int .i64 _, .int .i64 _, .int .i64 c, .int .i64 d, .bit _], .agg [.int .i64 x0, .int .i64 x1, .int .i64 x2, .int .i64 _, .bit d0, .bit d1, .bit d2, .bit d3, .bit d4, .bit d5]] =>
    .ok (.int .i64 (tcause (over3 cu x0 x1 x2) (any6 d0 d1 d2 d3 d4 d5) c d lt ht))
  | _ => .no
theorem ok32 : EntOK Try.prog TE 32 sCause := by
  refine ⟨callable_of Try.func32 (by kernel_rfl), fun args => ?_⟩
  unfold sCause
  split
  · refine fn_ofF tabsOK (specOK_cons ok36 (specOK_cons ok37 specOK_nil)) mixed Try.func32 (by kernel_rfl) ?_
    refine Brn.mk (fun h => AVle.int ?_) (fun h1 => ?_)
    · rw [tcause, if_pos h]
    refine Brn.mk (fun h => AVle.int ?_) (fun h2 => ?_)
    · rw [tcause, if_neg (by rw [h1]; decide), if_pos h]
    refine Brn.mk (fun h => AVle.int ?_) (fun h3 => ?_)
    · rw [tcause, if_neg (by rw [h1]; decide), if_neg (by rw [h2]; decide), if_pos (of_decide_eq_true h)]
    refine Brn.mk (fun h => AVle.int ?_) (fun h4 => AVle.int ?_)
    · rw [tcause, if_neg (by rw [h1]; decide), if_neg (by rw [h2]; decide), if_neg (of_decide_eq_false h3), if_pos (of_decide_eq_true h)]
    · rw [tcause, if_neg (by rw [h1]; decide), if_neg (by rw [h2]; decide), if_neg (of_decide_eq_false h3), if_neg (of_decide_eq_false h4)]
  · trivial
/-- A state. -/
structure TS where
  a : Int
  b : Int
  c : Int
  d : Int
  o : Bool
  deriving DecidableEq
def TS.l (s : TS) : List AV := [.int .i64 s.a, .int .i64 s.b, .int .i64 s.c, .int .i64 s.d, .bit s.o]
def TS.zero : TS := ⟨0, 0, 0, 0, false⟩
/-- A tick with the ranges of the state taken. 'q': is the current over; 'ds': a desaturation. -/
def tstep1 (re lt ht : Int) (s : TS) (low high q ds : Bool) : TS :=
  if s.o = true then s else
    if ¬ s.a = 0 then ⟨s.a, max (wr (s.b - 1)) 0, cnt s.c low lt, cnt s.d high ht, decide (max (wr (s.b - 1)) 0 = 0)⟩
    else if ¬ tcause q ds (cnt s.c low lt) (cnt s.d high ht) lt ht = 0 then ⟨tcause q ds (cnt s.c low lt) (cnt s.d high ht) lt ht, re, cnt s.c low lt, cnt s.d high ht, decide (re = 0)⟩
    else ⟨0, s.b, cnt s.c low lt, cnt s.d high ht, false⟩
def tclip (lt ht : Int) (s : TS) : TS := ⟨clip s.a 0 4, clip s.b 0 64, clip s.c 0 lt, clip s.d 0 ht, s.o⟩
def tstep (cu lo hi re lt ht : Int) (s : TS) (x0 x1 x2 l : Int) (ds : Bool) : TS :=
  tstep1 re lt ht (tclip lt ht s) (decide (l < lo)) (decide (hi < l)) (over3 cu x0 x1 x2) ds
def okT (e : Int) (s : TS) : TS := if e = 0 then s else .zero
def sStep : Sp
  | [.agg [.int .i64 cu, .int .i64 lo, .int .i64 hi, .int .i64 re, .int .i64 lt, .int .i64 ht], .agg [.int .i64 a, .int .i64 b, .int .i64 c, .int .i64 d, .bit o], .agg [.int .i64 x0, .int .i64 x1, .int .i64 x2, .int .i64 l, .bit d0, .bit d1, .bit d2, .bit d3, .bit d4, .bit d5]] =>
    .ok (.tup [.agg (okT (tchk cu lo hi re lt ht) (tstep cu lo hi re lt ht ⟨a, b, c, d, o⟩ x0 x1 x2 l (any6 d0 d1 d2 d3 d4 d5))).l, .err (tchk cu lo hi re lt ht)])
  | _ => .no
set_option maxHeartbeats 1000000 in
theorem ok16 : EntOK Try.prog TE 16 sStep := by
  refine ⟨callable_of Try.func16 (by kernel_rfl), fun args => ?_⟩
  unfold sStep
  split
  · rename_i cu lo hi re lt ht a b c d o x0 x1 x2 l d0 d1 d2 d3 d4 d5
    refine fn_ofF tabsOK (specOK_cons ok14 (specOK_cons ok30 (specOK_cons ok31 (specOK_cons ok32 specOK_nil)))) mixed Try.func16 (by kernel_rfl) ?_
    refine Brn.mk (fun h1 => ?_) (fun h1 => ?_)
    · have h1 : ¬ tchk cu lo hi re lt ht = 0 := ndT h1
      refine AVle.tup2 (.agg ?_) (.err rfl)
      rw [okT, if_neg h1]; rfl
    have h1 : tchk cu lo hi re lt ht = 0 := ndF h1
    have fin : ∀ s : TS, tstep cu lo hi re lt ht ⟨a, b, c, d, o⟩ x0 x1 x2 l (any6 d0 d1 d2 d3 d4 d5) = s → (okT (tchk cu lo hi re lt ht) (tstep cu lo hi re lt ht ⟨a, b, c, d, o⟩ x0 x1 x2 l (any6 d0 d1 d2 d3 d4 d5))) = s := fun s h => by rw [okT, if_pos h1, h]
    refine Brn.mk (fun h2 => ?_) (fun h2 => ?_)
    · refine AVle.tup2 (.agg ?_) (.nilErr h1)
      rw [fin ⟨clip a 0 4, clip b 0 64, clip c 0 lt, clip d 0 ht, o⟩ (by rw [tstep, tstep1, if_pos (show (tclip lt ht ⟨a, b, c, d, o⟩).o = true from h2)]; rfl)]
      rfl
    have ho : ¬ (tclip lt ht ⟨a, b, c, d, o⟩).o = true := fun h => by rw [show (tclip lt ht ⟨a, b, c, d, o⟩).o = false from h2] at h; cases h
    refine Brn.mk (fun h3 => ?_) (fun h3 => ?_)
    · have h3 : ¬ clip a 0 4 = 0 := ndT h3
      have e := fin ⟨clip a 0 4, max (wr (clip b 0 64 - 1)) 0, cnt (clip c 0 lt) (decide (l < lo)) lt, cnt (clip d 0 ht) (decide (hi < l)) ht, decide (max (wr (clip b 0 64 - 1)) 0 = 0)⟩ (by rw [tstep, tstep1, if_neg ho, if_pos (show ¬ (tclip lt ht ⟨a, b, c, d, o⟩).a = 0 from h3)]; rfl)
      refine Brn.mk (fun h4 => ?_) (fun h4 => absurd h3 (ndF h4 |> fun h => fun q => q h))
      refine AVle.tup2 (.agg ?_) (.nilErr h1)
      rw [e]; rfl
    have h3 : clip a 0 4 = 0 := ndF h3
    have ha : ¬ ¬ (tclip lt ht ⟨a, b, c, d, o⟩).a = 0 := fun h => h h3
    refine Brn.mk (fun h4 => ?_) (fun h4 => ?_)
    · have h4 : ¬ tcause (over3 cu x0 x1 x2) (any6 d0 d1 d2 d3 d4 d5) (cnt (clip c 0 lt) (decide (l < lo)) lt) (cnt (clip d 0 ht) (decide (hi < l)) ht) lt ht = 0 := ndT h4
      have e := fin ⟨tcause (over3 cu x0 x1 x2) (any6 d0 d1 d2 d3 d4 d5) (cnt (clip c 0 lt) (decide (l < lo)) lt) (cnt (clip d 0 ht) (decide (hi < l)) ht) lt ht, re, cnt (clip c 0 lt) (decide (l < lo)) lt, cnt (clip d 0 ht) (decide (hi < l)) ht, decide (re = 0)⟩ (by rw [tstep, tstep1, if_neg ho, if_neg ha, if_pos (show ¬ tcause (over3 cu x0 x1 x2) (any6 d0 d1 d2 d3 d4 d5) (cnt (tclip lt ht ⟨a, b, c, d, o⟩).c (decide (l < lo)) lt) (cnt (tclip lt ht ⟨a, b, c, d, o⟩).d (decide (hi < l)) ht) lt ht = 0 from h4)]; rfl)
      refine Brn.mk (fun _ => ?_) (fun h5 => absurd (ndF h5) h4)
      refine AVle.tup2 (.agg ?_) (.nilErr h1)
      rw [e]; rfl
    have h4 : tcause (over3 cu x0 x1 x2) (any6 d0 d1 d2 d3 d4 d5) (cnt (clip c 0 lt) (decide (l < lo)) lt) (cnt (clip d 0 ht) (decide (hi < l)) ht) lt ht = 0 := ndF h4
    have e := fin ⟨0, clip b 0 64, cnt (clip c 0 lt) (decide (l < lo)) lt, cnt (clip d 0 ht) (decide (hi < l)) ht, false⟩ (by rw [tstep, tstep1, if_neg ho, if_neg ha, if_neg (show ¬ ¬ tcause (over3 cu x0 x1 x2) (any6 d0 d1 d2 d3 d4 d5) (cnt (tclip lt ht ⟨a, b, c, d, o⟩).c (decide (l < lo)) lt) (cnt (tclip lt ht ⟨a, b, c, d, o⟩).d (decide (hi < l)) ht) lt ht = 0 from fun h => h h4)]; rfl)
    refine Brn.mk (fun h5 => absurd h4 (ndT h5)) (fun _ => ?_)
    refine AVle.tup2 (.agg ?_) (.nilErr h1)
    rw [e]
    show [AV.int .i64 (tcause (over3 cu x0 x1 x2) (any6 d0 d1 d2 d3 d4 d5) (cnt (clip c 0 lt) (decide (l < lo)) lt) (cnt (clip d 0 ht) (decide (hi < l)) ht) lt ht), _, _, _, _] = _
    rw [h4]; rfl
  · trivial
end
end Go.Proofs.Ytalppnldnahmbaa.Img
