/- The evaluator of a function, and its contract. Conditions: none. -/
import Derived.Test.YtbhbjmneglkgnaaAiCode
import Derived.Test.YtbhbjmneglkgnaaAiEat
namespace Go.Proofs.Ytbhbjmneglkgnaa.AI
open Go Go.RowKit

variable {P : Program} {E : Env} {N B : Nat} {w0 : World} {I0 : Nat → Nat → Prop}

def exOf : Exit → Option Ex
  | .normal => some .normal
  | .exit n => some (.exit n)
  | .ret => some .ret
  | _ => none

/-- What is known where the code has been left. -/
def Post (E : Env) (N B : Nat) (w0 : World) (I0 : Nat → Nat → Prop) (Q : Ex → St → KB → Prop) (e : Exit) (a : Act) (w : World) : Prop :=
  ∃ e' σ kb, exOf e = some e' ∧ Q e' σ kb ∧ KBok σ kb ∧ Rel E N B w0 I0 σ a w

theorem wp_loop_n {c : Code} {Q : Exit → Act → World → Prop} {a : Act} {w : World} (I : Nat → Act → World → Prop) {n : Nat} (h₀ : I n a w)
    (round : ∀ n a w, I n a w → c.wp P (Exit.then (fun a' w' => ∃ m, m < n ∧ I m a' w') Q) a w) : (Code.loop c).wp P Q a w := by
  intro b k cs
  have key : ∀ n a w, I n a w → ∃ e a' w', Q e a' w' ∧ Arrives P (lone (b.at a (.code c :: .inLoop c :: k)) cs w) b k cs e a' w' := by
    intro n
    induction n using Nat.strongRecOn with
    | _ n ih =>
      intro a w hI
      obtain ⟨e, a₁, w₁, hq, harr⟩ := round n a w hI b (.inLoop c :: k) cs
      cases e with
      | normal =>
        obtain ⟨m, hlt, hI₁⟩ := hq
        obtain ⟨e₂, a₂, w₂, hq₂, harr₂⟩ := ih m hlt a₁ w₁ hI₁
        exact ⟨e₂, a₂, w₂, hq₂, .of_steps (Steps.trans harr (.one step_inLoop)) harr₂⟩
      | exit id => exact ⟨_, a₁, w₁, hq, .pass (x := .inLoop c) rfl (fun _ _ => .inl (by simp)) harr⟩
      | goto l => exact ⟨_, a₁, w₁, hq, .pass (x := .inLoop c) rfl (fun _ _ => .inl (by simp)) harr⟩
      | ret => exact ⟨_, a₁, w₁, hq, .pass (x := .inLoop c) rfl (fun _ _ => .inl (by simp)) harr⟩
      | panic ch => exact ⟨_, a₁, w₁, hq, .pass (x := .inLoop c) rfl (fun _ _ => .inl (by simp)) harr⟩
      | outgrown => exact ⟨_, a₁, w₁, hq, .pass (x := .inLoop c) rfl (fun _ _ => .inl (by simp)) harr⟩
  obtain ⟨e, a', w', hq, harr⟩ := key n a w h₀
  exact ⟨e, a', w', hq, .of_steps (.one step_loop) harr⟩

theorem dstOK_of {ops : Array Oper} (h : (ops.toList.all fun o => match o.dst with | some d => Nat.blt d N | none => true) = true) : DstOK N ops := by
  intro i o ho d hd
  rw [List.all_eq_true] at h
  have := h o (Array.mem_toList_iff.2 (Array.mem_of_getElem? ho))
  rw [hd] at this
  simpa using this

theorem kb0_ok (σ : St) : KBok σ kb0 := fun d b h => by cases h

/-- The comparison with nil, in the model. -/
theorem nilCmp_wp (h : TabOK P E) {ops : Array Oper} {i : Nat} {o : Oper} (hi : ops[i]? = some o) {σ : St} {a : Act} {w : World} {d n : Nat} (hn : nilCmp E o σ.t = some (d, n)) (hr : Rel E N B w0 I0 σ a w) (hd : d < N)
    {K : Act → World → Prop} {Q : Exit → Act → World → Prop} (hK : ∀ b : Bool, (0 < n → b = false) → ∀ a' w', Rel E N B w0 I0 (σ.put d (.bit b)) a' w' → K a' w') : wpOp P ops Q i K a w := by
  unfold nilCmp at hn
  split at hn
  · cases hn
  · rename_i d' ty x hno
    have hno' : ∃ y rt, o.guard = none ∧ o.dst = some d' ∧ o.op = .binOp .eql ty x y rt ∧ isNilSl y = true := by
      unfold nilOp at hno
      split at hno
      · rename_i d'' ty' x' y rt hg hdst hop
        split at hno
        · rename_i hy
          simp only [Option.some.injEq, Prod.mk.injEq] at hno
          obtain ⟨rfl, rfl, rfl⟩ := hno
          exact ⟨y, rt, hg, hdst, hop, hy⟩
        · cases hno
      · cases hno
    obtain ⟨y, rt, hg, hdst, hop, hy⟩ := hno'
    split at hn
    · rename_i e s b z sz k f hty hx
      simp only [Option.some.injEq, Prod.mk.injEq] at hn
      obtain ⟨rfl, rfl⟩ := hn
      obtain ⟨ρ, I, M, ht, hs, hdf⟩ := hr
      have hxr : Rep E.errT I w ρ (evO σ.t x) (a.eval x) := rep_ev (tmps := a.tmps) (ds := a.defers) ht x
      rw [hx] at hxr
      simp only [Rep, Rep2, Rep1] at hxr
      obtain ⟨ad, cap, hv, _, _, hpos⟩ := hxr
      obtain ⟨n', c', rfl⟩ : ∃ n' c', y = .const (.slice none n' c') := by
        unfold isNilSl at hy
        split at hy
        · exact ⟨_, _, rfl⟩
        · cases hy
      have hu := tab_slice h hty
      unfold wpOp
      rw [hi]
      have hw : Region.wanted o (yielded ops a.tmps) = true := by unfold Region.wanted; rw [hg]
      simp only [hw, if_true]
      left
      unfold Oper.wp
      have hrun : (execOp a.eval o).run P w = .ok (.value (.bool ad.isNone)) w := by
        have := Lib.run_eql_slice_nil (P := P) w ty e ad k cap n' c' hu
        have hcst : a.eval (.const (.slice none n' c')) = .slice none n' c' := rfl
        generalize a.eval = evl at hv hcst
        simp [execOp, hop, eqGuard, hv, hcst, this]
      rw [hrun]
      show K (a.put o.dst (.bool ad.isNone)) w
      rw [hdst]
      refine hK ad.isNone (fun hp => ?_) _ _ ⟨ρ, I, M, ?_, by simp [Act.put, hs], hdf.mono Ext.refl rfl⟩
      · obtain ⟨b, o, rfl, _⟩ := hpos hp; rfl
      · exact put_rep ht (by rw [hs]; exact hd) (rep_bit.2 rfl)
    · cases hn
/-- A call that makes two rows, in the model. -/
theorem call2_wp (sp : SpecOK P E) {ops : Array Oper} {i : Nat} {o : Oper} (hi : ops[i]? = some o) {σ : St} {a : Act} {w : World} {d : Nat} {f : FuncId} {c : Call} (ho : callOp E o = some (d, f, c))
    {l args : List AV} {p : Prop} {r1 r2 : Row} {rest : List AV} (hl : l = c.args.toList.map (evO σ.t)) (hc2 : call2 E f l σ.m = some ⟨args, p, r1, r2, rest⟩) (h1 : σ.m d = none) (h2 : σ.m (d + 500) = none) (hp : p) (hr : Rel E N B w0 I0 σ a w) (hd : ∀ d, o.dst = some d → d < N)
    {K : Act → World → Prop} {Q : Exit → Act → World → Prop} (hK : ∀ a' w', Rel E N B w0 I0 ⟨fun t => match Nat.beq t d with | true => .agg (.own d r1.n :: .own (d + 500) r2.n :: rest) | false => σ.t t, effM (effM σ.m d (some r1) (fzArgs args)) (d + 500) (some r2) fz0⟩ a' w' → K a' w') : wpOp P ops Q i K a w := by
  have hx : o.guard = none ∧ o.dst = some d ∧ o.op = .call c ∧ c.callee = .value (.func f) := by
    unfold callOp at ho
    split at ho
    · rename_i d' c' hg hdst hop
      split at ho
      · rename_i f' hcal
        split at ho
        · simp only [Option.some.injEq, Prod.mk.injEq] at ho
          obtain ⟨rfl, rfl, rfl⟩ := ho
          exact ⟨hg, hdst, hop, hcal⟩
        · cases ho
      · cases ho
    · cases ho
  obtain ⟨hg, hdst, hop, hcal⟩ := hx
  have hy : noTups l = true ∧ E.spec f (pureL σ.m l) = .new2 p r1 r2 rest ∧ args = l := by
    unfold call2 at hc2
    split at hc2
    · rename_i p' r1' r2' rest' hno hs
      injection hc2 with hc2
      injection hc2 with e1 e2 e3 e4 e5
      subst e1 e2 e3 e4 e5
      exact ⟨hno, hs, rfl⟩
    · cases hc2
  obtain ⟨hno, hs, rfl⟩ := hy
  subst hl
  obtain ⟨ρ, I, M, ht, hsz, hdf⟩ := hr
  have hev : ∀ x, Rep E.errT I w ρ (evO σ.t x) (a.eval x) := fun x => rep_ev (tmps := a.tmps) (ds := a.defers) ht x
  have hsp := sp f (pureL σ.m (c.args.toList.map (evO σ.t)))
  rw [hs] at hsp
  unfold wpOp
  rw [hi]
  have hw : Region.wanted o (yielded ops a.tmps) = true := by unfold Region.wanted; rw [hg]
  simp only [hw, if_true]
  left
  unfold Oper.wp
  have hrun : (execOp a.eval o).run P w = .ok (.enter f (c.args.map a.eval)) w := by
    have hcst : a.eval (.func f) = .func (.func f) #[] #[] := rfl
    generalize a.eval = evl at hcst
    simp [execOp, hop, resolve, hcal, hcst, Deferred.ofValue, invoke, run_callFunc hsp.1]
  rw [hrun]
  refine (callN2_sound M h1 h2 (by omega) (hsp.2 hp) (vs := c.args.map a.eval) (by simpa using rep2L_map hev _ hno)).mono fun e w' ⟨x, he, ρ', I', X, M', hv⟩ => ?_
  subst he
  show K (a.put o.dst x) w'
  rw [hdst]
  refine hK _ _ ⟨ρ', I', M', ?_, by simp [Act.put, hsz], hdf.mono X rfl⟩
  exact put_rep (fun i => Rep.mono X _ _ (ht i)) (by rw [hsz]; exact hd d hdst) hv
/-- The calls that are evaluated in the caller's rows are the model's. -/
def InlOK (P : Program) (E : Env) : Prop := ∀ f g, E.inl f = some g → Callable P f ∧ ∀ (S : List Nat) (rv : List (Nat × Row)) (args : List AV) (K : AV → (Nat → Option Row) → Prop), g S rv args K →
  ∀ (B : Nat) (w0 : World) (I0 : Nat → Nat → Prop) (ρ : Nat → Place) (I : Nat → Nat → Prop) (w : World) (vs : Array Value), (∀ b k, I0 b k → b < B) → MRel E.errT B w0 I0 ρ I (lookR rv) w → Rep2L E.errT I w ρ args vs.toList →
    Calls P f vs w fun e w' => ∃ x v m', e = .returned x ∧ K v m' ∧ ∃ ρ' I', ExtK S ρ I w ρ' I' w' ∧ MRel E.errT B w0 I0 ρ' I' m' w' ∧ Rep E.errT I' w' ρ' v x
theorem inlOK_none (h : ∀ f, E.inl f = none) : InlOK P E := fun f g hf => by rw [h f] at hf; cases hf
/-- Such a call, in the model. -/
theorem inl_wp (h : TabOK P E) (il : InlOK P E) {ops : Array Oper} {i : Nat} {o : Oper} (hi : ops[i]? = some o) {tv : List (Nat × AV)} {dr : List Nat} {rv : List (Nat × Row)} {a : Act} {w : World} {d : Nat} {c : Call} {g : InlT} (ho : inlOp E o = some (d, c, g))
    {KK : AV → (Nat → Option Row) → Prop} (hg : inlA (c.args.toList.map (evO (lookV tv))) fun l => g (tIds (dropV dr tv) ++ E.keep) rv l KK) (hto : (tv.all fun p => tOK p.2) = true) (hr : Rel E N B w0 I0 (mkSt tv rv) a w) (hd : ∀ d, o.dst = some d → d < N)
    {K : Act → World → Prop} {Q : Exit → Act → World → Prop} (hK : ∀ v m' a' w', KK v m' → Rel E N B w0 I0 ⟨putV (dropV dr tv) d v, m'⟩ a' w' → K a' w') : wpOp P ops Q i K a w := by
  have hx : o.guard = none ∧ o.dst = some d ∧ o.op = .call c ∧ ((∃ f, c.callee = .value (.func f) ∧ E.inl f = some g) ∨ (c.callee = .builtin .append ∧ g = eatT E c.argTypes.toList d)) := by
    unfold inlOp at ho
    split at ho
    · rename_i d' c' hgd hdst hop
      split at ho
      · rename_i f hcal
        split at ho
        · rename_i g' hg'
          simp only [Option.some.injEq, Prod.mk.injEq] at ho
          obtain ⟨rfl, rfl, rfl⟩ := ho
          exact ⟨hgd, hdst, hop, .inl ⟨f, hcal, hg'⟩⟩
        · cases ho
      · rename_i hcal
        split at ho
        · simp only [Option.some.injEq, Prod.mk.injEq] at ho
          obtain ⟨rfl, rfl, rfl⟩ := ho
          exact ⟨hgd, hdst, hop, .inr ⟨hcal, rfl⟩⟩
        · cases ho
      · cases ho
    · cases ho
  obtain ⟨hgd, hdst, hop, hcase⟩ := hx
  unfold inlA at hg
  split at hg
  · rename_i hno
    obtain ⟨ρ, I, M, ht, hsz, hdf⟩ := hr
    have hev : ∀ x, Rep E.errT I w ρ (evO (lookV tv) x) (a.eval x) := fun x => rep_ev (tmps := a.tmps) (ds := a.defers) ht x
    unfold wpOp
    rw [hi]
    have hw : Region.wanted o (yielded ops a.tmps) = true := by unfold Region.wanted; rw [hgd]
    simp only [hw, if_true]
    left
    unfold Oper.wp
    have fin : ∀ {x : Value} {v : AV} {m' : Nat → Option Row} {w' : World} {ρ' : Nat → Place} {I' : Nat → Nat → Prop}, KK v m' → ExtK (tIds (dropV dr tv) ++ E.keep) ρ I w ρ' I' w' → MRel E.errT B w0 I0 ρ' I' m' w' → Rep E.errT I' w' ρ' v x → K (a.put o.dst x) w' := by
      intro x v m' w' ρ' I' hk X M' hv
      rw [hdst]
      refine hK v m' _ _ hk ⟨ρ', I', M', ?_, by simp [Act.put, hsz], ⟨by simp [Act.put, hdf.d], hdf.g.monoK X fun id h => List.mem_append_right _ h, hdf.i⟩⟩
      refine put_rep (fun i => ?_) (by rw [hsz]; exact hd d hdst) hv
      show Rep E.errT I' w' ρ' (lookV (dropV dr tv) i) _
      rcases lookV_drop (dr := dr) (tv := tv) i with e | e
      · have hids := lookV_tIds (tv := dropV dr tv) i
        rw [e] at hids ⊢
        exact rep_K X (lookV_tOK hto i) (fun id h => List.mem_append_left _ (hids id h)) (ht i)
      · rw [e]; simp [Rep, Rep2, Rep1]
    rcases hcase with ⟨f, hcal, hinl⟩ | ⟨hcal, rfl⟩
    · obtain ⟨hcl, hsound⟩ := il f g hinl
      have hrun : (execOp a.eval o).run P w = .ok (.enter f (c.args.map a.eval)) w := by
        have hcst : a.eval (.func f) = .func (.func f) #[] #[] := rfl
        generalize a.eval = evl at hcst
        simp [execOp, hop, resolve, hcal, hcst, Deferred.ofValue, invoke, run_callFunc hcl]
      rw [hrun]
      refine (hsound _ rv _ KK hg B w0 I0 ρ I w (c.args.map a.eval) hdf.i M (by simpa using rep2L_map hev _ hno)).mono fun e w' ⟨x, v, m', he, hk, ρ', I', X, M', hv⟩ => ?_
      subst he
      exact fin hk X M' hv
    · obtain ⟨x, v, m', w', hrun0, hk, ρ', I', X, M', hv⟩ := eatT_sound h hg M (vs := c.args.map a.eval) (by simpa using rep2L_map hev _ hno) o.type
      have hrun : (execOp a.eval o).run P w = .ok (.value x) w' := by
        generalize a.eval = evl at hrun0
        simp only [Array.toArray_toList] at hrun0
        simp [execOp, hop, resolve, hcal, invoke, builtin, hrun0]
      rw [hrun]
      exact fin hk X M' hv
  · exact hg.elim
theorem opsS_seq (h : TabOK P E) (sp : SpecOK P E) (il : InlOK P E) {ops : Array Oper} (hd : DstOK N ops) {Q : Exit → Act → World → Prop} {K : St → KB → Prop} (hQ : ∀ σ' kb' a w, K σ' kb' → KBok σ' kb' → Rel E N B w0 I0 σ' a w → Q .normal a w) :
    ∀ (l : List Oper) (k : Nat) (σ : St) (kb : KB) (a : Act) (w : World), (∀ j, l[j]? = ops[k + j]?) → evOpsS E ops.toList l σ kb K → KBok σ kb → Rel E N B w0 I0 σ a w → wpOps P ops Q (List.range' k l.length) a w
  | [], _, σ, kb, a, w, _, he, hk, hr => hQ σ kb a w he hk hr
  | o :: l, k, σ, kb, a, w, hl, he, hk, hr => by
    have h0 : ops[k]? = some o := by simpa using (hl 0).symm
    have hl' : ∀ j, l[j]? = ops[k + 1 + j]? := fun j => by have := hl (j + 1); simpa [Nat.add_assoc, Nat.add_comm 1 j] using this
    simp only [List.length_cons, List.range'_succ]
    rw [wpOps_cons]
    have step : evOps E ops.toList [o] σ kb (fun σ' kb' => evOpsS E ops.toList l σ' kb' K) → wpOp P ops Q k (fun a' w' => wpOps P ops Q (List.range' (k + 1) l.length) a' w') a w := fun he => by
      obtain ⟨σ', kb', hs, hk', hq⟩ := evOps_steps [o] σ kb _ he hk
      obtain ⟨σ1, h1, h2⟩ := hs
      simp only [GSteps] at h2
      subst h2
      exact gstep_wp h sp h0 h1 hr (hd k o h0) fun a' w' hr' => opsS_seq h sp il hd hQ l (k + 1) _ _ a' w' hl' hq hk' hr'
    unfold evOpsS at he
    split at he
    · split at he
      · rename_i d c g hco
        obtain ⟨tv, dr, rv, hwk, hto, hx⟩ := he.go
        exact inl_wp h il h0 hco hx hto (hwk N B w0 I0 a w hr) (hd k o h0) fun v m' a' w' hk' hr' => opsS_seq h sp il hd hQ l (k + 1) _ _ a' w' hl' hk' (kb0_ok _) hr'
      split at he
      · exact step he
      · rename_i d f c hco
        split at he
        · rename_i args p r1 r2 rest hc2 m1 m2
          refine call2_wp sp h0 hco rfl hc2 m1 m2 he.l hr (hd k o h0) fun a' w' hr' => ?_
          refine opsS_seq h sp il hd hQ l (k + 1) _ _ a' w' hl' he.r ?_ hr'
          exact kbPut_sound (σ := σ) hk (dst := some d) (v := .agg (.own d r1.n :: .own (d + 500) r2.n :: rest)) (fun i => rfl) (fun b e => by cases e)
        · exact he.elim
    · split at he
      · rename_i d n hn
        have hdd : o.dst = some d := by
          unfold nilCmp at hn
          split at hn
          · cases hn
          · rename_i d' ty x hno
            have hd' : o.dst = some d' := by
              unfold nilOp at hno
              split at hno
              · rename_i d'' ty' x' y rt hg hdst hop
                split at hno
                · simp only [Option.some.injEq, Prod.mk.injEq] at hno
                  rw [hdst, hno.1]
                · cases hno
              · cases hno
            split at hn
            · simp only [Option.some.injEq, Prod.mk.injEq] at hn
              rw [hd', hn.1]
            · cases hn
        refine nilCmp_wp h h0 hn hr (hd k o h0 d hdd) fun b hb a' w' hr' => ?_
        refine opsS_seq h sp il hd hQ l (k + 1) _ _ a' w' hl' (he b hb) ?_ hr'
        exact kbPut_sound (σ := σ) hk (dst := some d) (v := .bit b) (fun i => rfl) (fun b e => by cases e)
      · exact step he

theorem ev_sound (h : TabOK P E) (sp : SpecOK P E) (il : InlOK P E) (hm : P.follows .mixedOrders = true) : ∀ (c : Code), codeOK N c = true → ∀ (σ : St) (kb : KB) (Q : Ex → St → KB → Prop) (a : Act) (w : World),
    ev E c σ kb Q → KBok σ kb → Rel E N B w0 I0 σ a w → c.wp P (Post E N B w0 I0 Q) a w
  | .skip, _, σ, kb, Q, a, w, he, hk, hr => wp_skip ⟨.normal, σ, kb, rfl, he, hk, hr⟩
  | .label _, _, σ, kb, Q, a, w, he, hk, hr => wp_label ⟨.normal, σ, kb, rfl, he, hk, hr⟩
  | .region id ops draw, hc, σ, kb, Q, a, w, he, hk, hr => by
    simp only [codeOK, Bool.and_eq_true] at hc
    unfold ev at he
    cases draw with
    | false =>
      refine wp_region ?_
      have := opsS_seq h sp il (dstOK_of hc.1) (Q := Post E N B w0 I0 Q) (K := Q .normal) (fun σ' kb' a w hq hk' hr' => ⟨.normal, σ', kb', rfl, hq, hk', hr'⟩) ops.toList 0 σ kb a w (by simp) he hk hr
      rw [List.range_eq_range']
      simpa using this
    | true =>
      have hc2 : (lexE ops && lateOK ops.toList) = true := by simpa using hc.2
      rw [Bool.and_eq_true] at hc2
      split at he
      · rename_i hdr; cases hdr
      · rename_i hst
        obtain ⟨σ', kb', hs, hk', hq⟩ := evOps_steps ops.toList σ kb (Q .normal) he hk
        refine region_draw h sp hm (dstOK_of hc.1) hc2.1 hc2.2 hs (S := fun _ => false) (fun j o hj _ x id _ _ => ?_) hr fun a w hr' => ⟨.normal, σ', kb', rfl, hq, hk', hr'⟩
        exact (hasStore_spec hst o (Array.mem_toList_iff.2 (Array.mem_of_getElem? hj))).symm
      · obtain ⟨σ', kb', hs, hk', hq⟩ := evOps_steps ops.toList σ kb _ he hk
        exact region_draw h sp hm (dstOK_of hc.1) hc2.1 hc2.2 hs (regOK_spec hq.l) hr fun a w hr' => ⟨.normal, σ', kb', rfl, hq.r, hk', hr'⟩
  | .seq x y, hc, σ, kb, Q, a, w, he, hk, hr => by
    simp only [codeOK, Bool.and_eq_true] at hc
    refine wp_seq (wp_mono (ev_sound h sp il hm x hc.1 σ kb _ a w he hk hr) fun e a' w' hp => ?_)
    obtain ⟨e', σ', kb', h1, h2, h3, h4⟩ := hp
    cases e <;> simp only [exOf] at h1 <;> first
      | (injection h1 with h1; subst h1; exact ev_sound h sp il hm y hc.2 σ' kb' Q a' w' h2 h3 h4)
      | (injection h1 with h1; subst h1; exact ⟨_, σ', kb', rfl, h2, h3, h4⟩)
      | cases h1
  | .cond c x y, hc, σ, kb, Q, a, w, he, hk, hr => by
    simp only [codeOK, Bool.and_eq_true] at hc
    obtain ⟨ρ, I, M, ht, hs, hdf⟩ := hr
    have hev : ∀ x, Rep E.errT I w ρ (evO σ.t x) (a.eval x) := fun x => rep_ev (tmps := a.tmps) (ds := a.defers) ht x
    have hr : Rel E N B w0 I0 σ a w := ⟨ρ, I, M, ht, hs, hdf⟩
    have hcv := hev c
    unfold ev at he
    split at he
    · rename_i hb
      rw [kbOf_sound hk hb, rep_bit] at hcv
      exact wp_cond_true hcv (ev_sound h sp il hm x hc.1 σ kb Q a w he hk hr)
    · rename_i hb
      rw [kbOf_sound hk hb, rep_bit] at hcv
      exact wp_cond_false hcv (ev_sound h sp il hm y hc.2 σ kb Q a w he hk hr)
    · split at he
      · rename_i b hb
        rw [hb, rep_bit] at hcv
        cases hbb : b with
        | true =>
          rw [hbb] at hcv
          exact wp_cond_true hcv (ev_sound h sp il hm x hc.1 σ _ Q a w (he.t hbb) (kbMark_sound hk (by rw [hb, hbb])) hr)
        | false =>
          rw [hbb] at hcv
          exact wp_cond_false hcv (ev_sound h sp il hm y hc.2 σ _ Q a w (he.f hbb) (kbMark_sound hk (by rw [hb, hbb])) hr)
      · exact he.elim
  | .block id x, hc, σ, kb, Q, a, w, he, hk, hr => by
    refine wp_block (wp_mono (ev_sound h sp il hm x hc σ kb _ a w he hk hr) fun e a' w' hp => ?_)
    obtain ⟨e', σ', kb', h1, h2, h3, h4⟩ := hp
    cases e <;> simp only [exOf] at h1 <;> first
      | cases h1
      | skip
    · exact ⟨_, σ', kb', rfl, h2, h3, h4⟩
    · rename_i j
      simp only [Exit.inBlock]
      by_cases hj : j = id
      · subst hj
        rw [if_pos rfl]
        simp only [Nat.beq_refl] at h2
        exact ⟨_, σ', kb', rfl, by simpa using h2, h3, h4⟩
      · rw [if_neg hj]
        have : Nat.beq j id = false := by
          cases hb : Nat.beq j id
          · rfl
          · exact absurd (Nat.eq_of_beq_eq_true hb) hj
        simp only [this] at h2
        exact ⟨_, σ', kb', rfl, h2, h3, h4⟩
    · exact ⟨_, σ', kb', rfl, h2, h3, h4⟩
  | .loop x, hc, σ, kb, Q, a, w, he, hk, hr => by
    obtain ⟨ι, st, μ, ⟨i0, hi0⟩, round⟩ := he.go
    refine wp_loop_n (fun n a w => ∃ i, μ i = n ∧ Rel E N B w0 I0 (st i) a w) (n := μ i0) ⟨i0, rfl, hi0 N B w0 I0 a w hr⟩ ?_
    rintro n a w ⟨i, rfl, hri⟩
    refine wp_mono (ev_sound h sp il hm x hc (st i) kb0 _ a w (round i) (kb0_ok _) hri) fun e a' w' hp => ?_
    obtain ⟨e', σ', kb', h1, h2, h3, h4⟩ := hp
    cases e <;> simp only [exOf] at h1 <;> first
      | cases h1
      | skip
    · obtain ⟨i', hlt, hw⟩ := h2
      exact ⟨μ i', hlt, i', rfl, hw N B w0 I0 a' w' h4⟩
    · exact ⟨_, σ', kb', rfl, h2, h3, h4⟩
    · exact ⟨_, σ', kb', rfl, h2, h3, h4⟩
  | .exit id, _, σ, kb, Q, a, w, he, hk, hr => wp_exit ⟨.exit id, σ, kb, rfl, he, hk, hr⟩
  | .ret, _, σ, kb, Q, a, w, he, hk, hr => wp_ret ⟨.ret, σ, kb, rfl, he, hk, hr⟩
  | .rangeFunc .., _, _, _, _, _, _, he, _, _ => he.elim
  | .scope _, _, _, _, _, _, _, he, _, _ => he.elim
  | .goto _, _, _, _, _, _, _, he, _, _ => he.elim
  | .refuse _, _, _, _, _, _, _, he, _, _ => he.elim

/-- The results of a function. -/
def resL (E : Env) (σ : St) : List ResultVar → Option (List AV)
  | [] => some []
  | .tmp t :: r => match resL E σ r with
    | some l => match noTup (σ.t t) with
      | true => some (σ.t t :: l)
      | false => none
    | none => none
  | .cell a ty :: r => match resL E σ r, aload E ty (σ.t a) (rowOf σ.m (σ.t a)) with
    | some l, .val v => match noTup v with
      | true => some (v :: l)
      | false => none
    | _, _ => none
def resAV (E : Env) (fn : Func) (σ : St) : Option AV :=
  match resL E σ fn.results.toList with
  | none => none
  | some [v] => some v
  | some vs => some (.tup vs)

def initT : List AV → Nat → AV
  | [], _ => .bad
  | v :: _, 0 => v
  | _ :: r, n + 1 => initT r n

/-- A function, evaluated: 'Q' of what it returns. -/
def evFn (E : Env) (fn : Func) (args : List AV) (Q : AV → Prop) : Prop :=
  match fn.body with
  | some c => ev E c ⟨initT args, fun _ => none⟩ kb0 (fun e σ _ => match e with
    | .exit _ => False
    | _ => match resAV E fn σ with
      | some v => Q (pure1 σ.m v)
      | none => False)
  | none => False

/-- 'r' says no more than 'r0'. -/
structure AVle (T : TypeId) (r0 r : AV) : Prop where
  le : ∀ (I : Nat → Nat → Prop) (w : World) (v : Value), Rep T I w noPl r0 v → Rep T I w noPl r v

theorem AVle.refl {T : TypeId} {r : AV} : AVle T r r := ⟨fun _ _ _ h => h⟩

theorem init_rep {T : TypeId} {I : Nat → Nat → Prop} {w : World} : ∀ {args : List AV} {vs : List Value} (_ : Rep2L T I w noPl args vs) (more : List Value) (i : Nat), Rep T I w noPl (initT args i) ((vs ++ more)[i]?.getD undef)
  | [], _, _, _, _ => by simp [initT, Rep, Rep2, Rep1]
  | _ :: _, v :: _, h, more, 0 => by simp only [initT, List.cons_append, List.getElem?_cons_zero, Option.getD_some]; exact .of2 h.1
  | _ :: r, _ :: s, h, more, i + 1 => by simpa [initT] using init_rep h.2 more i
  | _ :: _, [], h, _, _ => h.elim

def resF (tmps : Array Value) : ResultVar → Sem Value
  | .tmp t => pure (tmps.getD t undef)
  | .cell a t => do loadVar t (← asAddr (tmps.getD a undef))
theorem results_eq (fn : Func) (tmps : Array Value) : results fn tmps = (do
    let vs ← fn.results.mapM (resF tmps)
    pure (if h : vs.size = 1 then vs[0] else .tuple vs)) := by
  unfold results
  congr 2
theorem resL_sound (h : TabOK P E) {σ : St} {a : Act} {w : World} {ρ : Nat → Place} {I : Nat → Nat → Prop} (M : MRel E.errT B w0 I0 ρ I σ.m w) (ht : ∀ i, Rep E.errT I w ρ (σ.t i) (a.tmps.getD i undef)) :
    ∀ (rs : List ResultVar) (l : List AV), resL E σ rs = some l → ∃ vs, (rs.mapM (resF a.tmps)).run P w = .ok vs w ∧ Rep2L E.errT I w ρ l vs
  | [], l, hl => by
    simp only [resL, Option.some.injEq] at hl
    subst hl
    exact ⟨[], by simp, trivial⟩
  | .tmp t :: r, l, hl => by
    simp only [resL] at hl
    split at hl
    · rename_i l' hl'
      split at hl
      · rename_i hno
        simp only [Option.some.injEq] at hl
        subst hl
        obtain ⟨vs, h1, h2⟩ := resL_sound h M ht r l' hl'
        refine ⟨a.tmps.getD t undef :: vs, ?_, rep2_of hno (ht t), h2⟩
        simp only [List.mapM_cons, resF, Sem.run_bind, Sem.run_pure, Result.andThen_ok, h1]
      · cases hl
    · cases hl
  | .cell b ty :: r, l, hl => by
    simp only [resL] at hl
    split at hl
    · rename_i l' v hl' hv
      split at hl
      · rename_i hno
        simp only [Option.some.injEq] at hl
        subst hl
        obtain ⟨vs, h1, h2⟩ := resL_sound h M ht r l' hl'
        have hload := valOK_load (P := P) h M ty (σ.t b) (a.tmps.getD b undef) (ht b) (evO σ.t) (.tmp b) rfl 0
        simp only [aop, evO] at hload
        rw [hv] at hload
        obtain ⟨x, hx1, hx2⟩ := hload
        have hptr : ∃ ad, a.tmps.getD b undef = .pointer (some ad) := by
          cases hp : a.tmps.getD b undef <;> simp only [Instr.loadAt, Instr.sureAddr, hp, Sem.run_bind, run_stuck, Result.andThen_halt] at hx1 <;> first
            | cases hx1
            | skip
          rename_i ad
          cases ad with
          | none => simp at hx1
          | some ad => exact ⟨ad, rfl⟩
        obtain ⟨ad, hp⟩ := hptr
        refine ⟨x :: vs, ?_, rep2_of hno hx2, h2⟩
        have hx3 : (loadVar ty ad).run P w = .ok x w := by
          rw [hp] at hx1
          simpa [Instr.loadAt, Instr.sureAddr] using hx1
        simp only [List.mapM_cons, resF, Sem.run_bind, Sem.run_pure, hp, asAddr, Result.andThen_ok, hx3, h1]
      · cases hl
    · cases hl

theorem results_sound (h : TabOK P E) {fn : Func} {σ : St} {a : Act} {w : World} {ρ : Nat → Place} {I : Nat → Nat → Prop} (M : MRel E.errT B w0 I0 ρ I σ.m w) (ht : ∀ i, Rep E.errT I w ρ (σ.t i) (a.tmps.getD i undef))
    {v : AV} (hv : resAV E fn σ = some v) : ∃ x, (results fn a.tmps).run P w = .ok x w ∧ Rep E.errT I w ρ v x := by
  unfold resAV at hv
  have main : ∀ l, resL E σ fn.results.toList = some l → ∃ vs : List Value, Rep2L E.errT I w ρ l vs ∧ (results fn a.tmps).run P w = .ok (if hs : vs.toArray.size = 1 then vs.toArray[0] else .tuple vs.toArray) w := by
    intro l hl
    obtain ⟨vs, h1, h2⟩ := resL_sound h M ht fn.results.toList l hl
    refine ⟨vs, h2, ?_⟩
    rw [results_eq, Array.mapM_eq_mapM_toList]
    simp only [Sem.run_bind, Sem.run_map, h1, Result.andThen_ok, Sem.run_pure]
  split at hv
  · cases hv
  · rename_i v' hl
    obtain ⟨vs, h1, h2⟩ := main _ hl
    simp only [Option.some.injEq] at hv
    subst hv
    match vs, h1 with
    | [x], h1 => exact ⟨x, by rw [h2]; rfl, Rep.of2 h1.1⟩
  · rename_i l hne hl
    obtain ⟨vs, h1, h2⟩ := main _ hl
    simp only [Option.some.injEq] at hv
    subst hv
    refine ⟨.tuple vs.toArray, ?_, vs.toArray, rfl, by simpa using h1⟩
    rw [h2]
    match l, vs, h1 with
    | [], [], _ => rfl
    | [v], [x], _ => exact absurd rfl (hne v)
    | _ :: _ :: _, _ :: _ :: _, _ => simp

theorem fnOK_of_ev (h : TabOK P E) (hbase : E.base = none) (sp : SpecOK P E) (il : InlOK P E) (hm : P.follows .mixedOrders = true) {f : FuncId} {fn : Func} {c : Code} {args : List AV} {r : AV}
    (hf : P.funcs[f]? = some fn) (hb : fn.body = some c) (hc : codeOK fn.ntmps c = true) (hn : args.length ≤ fn.ntmps)
    (he : evFn E fn args (fun r' => AVle E.errT r' r)) : FnOK P E.errT f args r := by
  intro I w vs hI hargs
  refine calls_of_wp hf hb ?_
  unfold evFn at he
  rw [hb] at he
  have hlen : vs.size = args.length := by
    have : ∀ (l : List AV) (xs : List Value), Rep2L E.errT I w noPl l xs → xs.length = l.length := by
      intro l
      induction l with
      | nil => intro xs hx; cases xs with
        | nil => rfl
        | cons => exact hx.elim
      | cons v r ih => intro xs hx; cases xs with
        | nil => exact hx.elim
        | cons y s => simp only [List.length_cons]; rw [ih s hx.2]
    simpa using this args vs.toList hargs
  have hrel : Rel E fn.ntmps w.heap.size w I ⟨initT args, fun _ => none⟩ { tmps := vs ++ Array.replicate (fn.ntmps - vs.size) undef, defers := [] } w := by
    refine ⟨noPl, I, ?_, ?_, ?_, ⟨rfl, by unfold Gh; rw [hbase]; trivial, hI⟩⟩
    · refine MRel.mk (fun _ _ => rfl) ?_ ?_ hI (fun _ _ h => h) (fun _ _ h => Or.inl h) (Below.refl _ _) (Nat.le_refl _)
      · intro id r h; cases h
      · intro id id' r r' g cap sz n cap' sz' n' _ h; cases h
    · intro i
      have := init_rep (T := E.errT) hargs (List.replicate (fn.ntmps - vs.size) undef) i
      have e : (vs ++ Array.replicate (fn.ntmps - vs.size) undef).getD i undef = ((vs.toList ++ List.replicate (fn.ntmps - vs.size) undef)[i]?.getD undef) := by
        rw [Array.getD_eq_getD_getElem?, ← Array.getElem?_toList]
        simp
      rw [e]
      exact this
    · simp only [Array.size_append, Array.size_replicate]
      omega
  refine wp_mono (ev_sound h sp il hm c hc _ kb0 _ _ w he (kb0_ok _) hrel) fun e a' w' hp => ?_
  obtain ⟨e', σ, kb, h1, h2, _, ρ, I', M, ht, _, ⟨hdf, _, _⟩⟩ := hp
  have fin : ∀ v, resAV E fn σ = some v → AVle E.errT (pure1 σ.m v) r → a'.defers = [] ∧ ∃ v, (results fn a'.tmps).run P w' = .ok v w' ∧ ∃ x, Ending.returned v = .returned x ∧ Below w.heap.size w w' ∧ Rep E.errT (newI I w w') w' noPl r x := by
    intro v hv hle
    obtain ⟨x, hx, hr⟩ := results_sound h M ht hv
    refine ⟨hdf, x, hx, x, rfl, M.below, hle.le _ _ _ ?_⟩
    have := pure_sound M (fun _ => true) v x (fun _ _ => rfl) hr
    refine Rep.mono (noPl_mono ?_) _ _ this
    rintro b k (hb | ⟨id, cap, sz, n, hp, -, hk⟩)
    · rcases M.inew b k hb with h | h
      · exact .inl h
      · exact .inr ⟨h, M.ilt b k hb⟩
    · cases hm' : σ.m id with
      | none => rw [M.dom id hm'] at hp; cases hp
      | some row =>
        have hrow := M.rows id row hm'
        rw [hp] at hrow
        obtain ⟨_, _, hB, _, _, ⟨arr, harr, _⟩, _⟩ := hrow
        exact .inr ⟨hB, heap_lt harr⟩
  cases e <;> simp only [exOf] at h1 <;> first
    | cases h1
    | skip
  · simp only at h2
    split at h2
    · rename_i v hv; exact fin v hv h2
    · exact h2.elim
  · exact h2.elim
  · simp only at h2
    split at h2
    · rename_i v hv; exact fin v hv h2
    · exact h2.elim
/-- The value names the row that is asked for. -/
def NewOf (T : TypeId) (m : Nat → Option Row) (v : AV) (r : Row) : Prop :=
  (v = .nilS ∧ r.st ≠ 0 ∧ r.n = 0) ∨ ∃ id n row, v = .own id n ∧ m id = some row ∧ row.e = r.e ∧ row.sz = r.sz ∧ n = r.n ∧ row.n = n ∧ row.bx = false ∧ (r.n = 0 → r.st ≠ 0) ∧ ∀ i j, i < r.n → j < r.sz → row.f i j = r.f i j
/-- A function that hands back a new row, evaluated. -/
def evNew (E : Env) (fn : Func) (args : List AV) (r : Row) : Prop :=
  match fn.body with
  | some c => ev E c ⟨initT args, fun _ => none⟩ kb0 (fun e σ _ => match e with
    | .exit _ => False
    | _ => match resAV E fn σ with
      | some v => NewOf E.errT σ.m v r
      | none => False)
  | none => False

theorem fnNew_of_ev (h : TabOK P E) (hbase : E.base = none) (sp : SpecOK P E) (il : InlOK P E) (hm : P.follows .mixedOrders = true) {f : FuncId} {fn : Func} {c : Code} {args : List AV} {r : Row}
    (hf : P.funcs[f]? = some fn) (hb : fn.body = some c) (hc : codeOK fn.ntmps c = true) (hn : args.length ≤ fn.ntmps)
    (hbx : r.bx = false) (hflat : ∀ i j, i < r.n → j < r.sz → flatC (r.f i j) = true) (he : evNew E fn args r) : FnNew P E.errT f args r := by
  refine ⟨hbx, hflat, ?_⟩
  intro I w vs hI hargs
  refine calls_of_wp hf hb ?_
  unfold evNew at he
  rw [hb] at he
  have hlen : vs.size = args.length := by
    have : ∀ (l : List AV) (xs : List Value), Rep2L E.errT I w noPl l xs → xs.length = l.length := by
      intro l
      induction l with
      | nil => intro xs hx; cases xs with
        | nil => rfl
        | cons => exact hx.elim
      | cons v r ih => intro xs hx; cases xs with
        | nil => exact hx.elim
        | cons y s => simp only [List.length_cons]; rw [ih s hx.2]
    simpa using this args vs.toList hargs
  have hrel : Rel E fn.ntmps w.heap.size w I ⟨initT args, fun _ => none⟩ { tmps := vs ++ Array.replicate (fn.ntmps - vs.size) undef, defers := [] } w := by
    refine ⟨noPl, I, ?_, ?_, ?_, ⟨rfl, by unfold Gh; rw [hbase]; trivial, hI⟩⟩
    · refine MRel.mk (fun _ _ => rfl) ?_ ?_ hI (fun _ _ h => h) (fun _ _ h => Or.inl h) (Below.refl _ _) (Nat.le_refl _)
      · intro id r h; cases h
      · intro id id' r r' g cap sz n cap' sz' n' _ h; cases h
    · intro i
      have := init_rep (T := E.errT) hargs (List.replicate (fn.ntmps - vs.size) undef) i
      have e : (vs ++ Array.replicate (fn.ntmps - vs.size) undef).getD i undef = ((vs.toList ++ List.replicate (fn.ntmps - vs.size) undef)[i]?.getD undef) := by
        rw [Array.getD_eq_getD_getElem?, ← Array.getElem?_toList]
        simp
      rw [e]
      exact this
    · simp only [Array.size_append, Array.size_replicate]
      omega
  refine wp_mono (ev_sound h sp il hm c hc _ kb0 _ _ w he (kb0_ok _) hrel) fun e a' w' hp => ?_
  obtain ⟨e', σ, kb, h1, h2, _, ρ, I', M, ht, _, ⟨hdf, _, _⟩⟩ := hp
  have fin : ∀ v, resAV E fn σ = some v → NewOf E.errT σ.m v r → a'.defers = [] ∧ ∃ v, (results fn a'.tmps).run P w' = .ok v w' ∧ ∃ x, Ending.returned v = .returned x ∧ Below w.heap.size w w' ∧ ((r.st ≠ 0 ∧ r.n = 0 ∧ x = .slice none 0 0) ∨
      ∃ b cap arr, x = .slice (some ⟨b, 0, none⟩) r.n cap ∧ w.heap.size ≤ b ∧ r.n ≤ cap ∧ cap ≤ maxLen ∧ w'.heap[b]? = some (.cells arr r.e (0, 0)) ∧ arr.size = cap * r.sz ∧
        ∀ i j, i < r.n → j < r.sz → ∃ c, arr[i * r.sz + j]? = some c ∧ c.oneCell' = true ∧ Rep1 E.errT (fun _ _ => False) w' noPl (r.f i j) c) := by
    intro v hv hle
    obtain ⟨x, hx, hr⟩ := results_sound h M ht hv
    refine ⟨hdf, x, hx, x, rfl, M.below, ?_⟩
    rcases hle with ⟨rfl, hst, hn⟩ | ⟨id, n, row, rfl, hrow, he1, hsz, hn, hn', hbx', hz, hf⟩
    · rw [rep_nilS] at hr
      exact .inl ⟨hst, hn, hr⟩
    · simp only [Rep, Rep2, Rep1] at hr
      rcases hr with ⟨g, cap, sz, hp, rfl⟩ | ⟨sz, hp, hn0, rfl⟩
      · have hR := M.rows id row hrow
        rw [hp] at hR
        obtain ⟨q1, q2, q3, q4, q5, ⟨arr, harr, hs, hcells⟩, _⟩ := hR
        refine .inr ⟨g, cap, arr, by rw [hn], q3, by omega, q5, by rw [← he1]; exact harr, by rw [hs, q1, hsz], fun i j hi hj => ?_⟩
        obtain ⟨c, c1, c2, c3⟩ := hcells i j (by omega) (by omega)
        refine ⟨c, by rw [← hsz, ← q1]; exact c1, c2, ?_⟩
        have c4 := rep1_flat (I' := fun _ _ => False) (w' := w') (ρ' := noPl) (by rw [hf i j hi hj]; exact hflat i j hi hj) c3
        rw [hf i j hi hj] at c4
        exact c4
      · exact .inl ⟨hz (by omega), by omega, rfl⟩
  cases e <;> simp only [exOf] at h1 <;> first
    | cases h1
    | skip
  · simp only at h2
    split at h2
    · rename_i v hv; exact fin v hv h2
    · exact h2.elim
  · exact h2.elim
  · simp only at h2
    split at h2
    · rename_i v hv; exact fin v hv h2
    · exact h2.elim
/-- The row that a struct's field names. -/
def OwnIs (m : Nat → Option Row) (id : Nat) (r : Row) : Prop :=
  match m id with
  | some row => row.e = r.e ∧ row.sz = r.sz ∧ row.n = r.n ∧ row.bx = false ∧ row.st = 0 ∧ ∀ i j, i < r.n → j < r.sz → row.f i j = r.f i j
  | none => False
def NewOf2 (m : Nat → Option Row) (v : AV) (r1 r2 : Row) (rest : List AV) : Prop :=
  ∃ id1 id2, v = .agg (.own id1 r1.n :: .own id2 r2.n :: rest) ∧ id1 ≠ id2 ∧ OwnIs m id1 r1 ∧ OwnIs m id2 r2
def evNew2 (E : Env) (fn : Func) (args : List AV) (r1 r2 : Row) (rest : List AV) : Prop :=
  match fn.body with
  | some c => ev E c ⟨initT args, fun _ => none⟩ kb0 (fun e σ _ => match e with
    | .exit _ => False
    | _ => match resAV E fn σ with
      | some v => NewOf2 σ.m v r1 r2 rest
      | none => False)
  | none => False
theorem own_new {ρ : Nat → Place} {I : Nat → Nat → Prop} {m : Nat → Option Row} {w w' : World} {id : Nat} {r : Row} {x : Value} {T : TypeId} {w0 : World} {I0 : Nat → Nat → Prop}
    (M : MRel T w.heap.size w0 I0 ρ I m w') (h : OwnIs m id r) (hbx : r.bx = false) (hflat : ∀ i j, i < r.n → j < r.sz → flatC (r.f i j) = true) (hr : Rep1 T I w' ρ (.own id r.n) x) :
    NewAt T w w' r x (ρ id) ∧ ∃ row, m id = some row ∧ row.st = 0 := by
  unfold OwnIs at h
  split at h
  · rename_i row hrow
    obtain ⟨he, hsz, hn, hb, hst, hf⟩ := h
    refine ⟨?_, row, hrow, hst⟩
    have hR := M.rows id row hrow
    simp only [Rep1] at hr
    rcases hr with ⟨g, cap, sz, hp, rfl⟩ | ⟨sz, hp, hn0, rfl⟩
    · rw [hp] at hR ⊢
      obtain ⟨q1, q2, q3, q4, q5, ⟨arr, harr, hs, hcells⟩, _⟩ := hR
      refine ⟨by rw [q1, hsz], rfl, rfl, q3, q4, q5, arr, by rw [← he]; exact harr, by rw [hs, q1, hsz], fun i j hi hj => ?_⟩
      obtain ⟨c, c1, c2, c3⟩ := hcells i j (by omega) (by rw [q1, hsz]; exact hj)
      refine ⟨c, by rw [← hsz, ← q1]; exact c1, c2, ?_⟩
      have c4 := rep1_flat (I' := fun _ _ => False) (w' := w') (ρ' := noPl) (by rw [hf i j hi hj]; exact hflat i j hi hj) c3
      rw [hf i j hi hj] at c4
      exact c4
    · rw [hp] at hR ⊢
      exact ⟨by rw [hR.1, hsz], hn0, rfl⟩
  · exact h.elim
theorem fnNew2_of_ev (h : TabOK P E) (hbase : E.base = none) (sp : SpecOK P E) (il : InlOK P E) (hm : P.follows .mixedOrders = true) {f : FuncId} {fn : Func} {c : Code} {args : List AV} {r1 r2 : Row} {rest : List AV}
    (hf : P.funcs[f]? = some fn) (hb : fn.body = some c) (hc : codeOK fn.ntmps c = true) (hn : args.length ≤ fn.ntmps)
    (hbx1 : r1.bx = false) (hbx2 : r2.bx = false) (hflat1 : ∀ i j, i < r1.n → j < r1.sz → flatC (r1.f i j) = true) (hflat2 : ∀ i j, i < r2.n → j < r2.sz → flatC (r2.f i j) = true) (hrest : ∀ v, v ∈ rest → flatC v = true) (he : evNew2 E fn args r1 r2 rest) : FnNew2 P E.errT f args r1 r2 rest := by
  refine ⟨hbx1, hbx2, hflat1, hflat2, hrest, ?_⟩
  intro I w vs hI hargs
  refine calls_of_wp hf hb ?_
  unfold evNew2 at he
  rw [hb] at he
  have hlen : vs.size = args.length := by
    have : ∀ (l : List AV) (xs : List Value), Rep2L E.errT I w noPl l xs → xs.length = l.length := by
      intro l
      induction l with
      | nil => intro xs hx; cases xs with
        | nil => rfl
        | cons => exact hx.elim
      | cons v r ih => intro xs hx; cases xs with
        | nil => exact hx.elim
        | cons y s => simp only [List.length_cons]; rw [ih s hx.2]
    simpa using this args vs.toList hargs
  have hrel : Rel E fn.ntmps w.heap.size w I ⟨initT args, fun _ => none⟩ { tmps := vs ++ Array.replicate (fn.ntmps - vs.size) undef, defers := [] } w := by
    refine ⟨noPl, I, ?_, ?_, ?_, ⟨rfl, by unfold Gh; rw [hbase]; trivial, hI⟩⟩
    · refine MRel.mk (fun _ _ => rfl) ?_ ?_ hI (fun _ _ h => h) (fun _ _ h => Or.inl h) (Below.refl _ _) (Nat.le_refl _)
      · intro id r h; cases h
      · intro id id' r r' g cap sz n cap' sz' n' _ h; cases h
    · intro i
      have := init_rep (T := E.errT) hargs (List.replicate (fn.ntmps - vs.size) undef) i
      have e : (vs ++ Array.replicate (fn.ntmps - vs.size) undef).getD i undef = ((vs.toList ++ List.replicate (fn.ntmps - vs.size) undef)[i]?.getD undef) := by
        rw [Array.getD_eq_getD_getElem?, ← Array.getElem?_toList]
        simp
      rw [e]
      exact this
    · simp only [Array.size_append, Array.size_replicate]
      omega
  refine wp_mono (ev_sound h sp il hm c hc _ kb0 _ _ w he (kb0_ok _) hrel) fun e a' w' hp => ?_
  obtain ⟨e', σ, kb, h1, h2, _, ρ, I', M, ht, _, ⟨hdf, _, _⟩⟩ := hp
  have fin : ∀ v, resAV E fn σ = some v → NewOf2 σ.m v r1 r2 rest → a'.defers = [] ∧ ∃ v, (results fn a'.tmps).run P w' = .ok v w' ∧ ∃ x1 x2 xs p1 p2, Ending.returned v = .returned (.agg (x1 :: x2 :: xs).toArray) ∧ Below w.heap.size w w' ∧ NewAt E.errT w w' r1 x1 p1 ∧ NewAt E.errT w w' r2 x2 p2 ∧
      (∀ g c1 s1 n1 c2 s2 n2, p1 = .at g c1 s1 n1 → p2 = .at g c2 s2 n2 → False) ∧ RepL E.errT (fun _ _ => False) w' noPl rest xs := by
    intro v hv hle
    obtain ⟨x, hx, hr⟩ := results_sound h M ht hv
    refine ⟨hdf, x, hx, ?_⟩
    obtain ⟨id1, id2, rfl, hne, o1, o2⟩ := hle
    simp only [Rep, Rep2] at hr
    obtain ⟨arr, rfl, hl⟩ := hr
    obtain ⟨l, rfl⟩ : ∃ l : List Value, arr = l.toArray := ⟨arr.toList, by simp⟩
    match l, hl with
    | [], hl => simp only [RepL] at hl
    | [_], hl => simp only [RepL] at hl; exact hl.2.elim
    | x1 :: x2 :: xs, hl =>
      simp only [RepL] at hl
      obtain ⟨⟨_, a1⟩, ⟨_, a2⟩, a3⟩ := hl
      obtain ⟨b1, row1, m1, s1⟩ := own_new (w := w) M o1 hbx1 hflat1 a1
      obtain ⟨b2, row2, m2, s2⟩ := own_new (w := w) M o2 hbx2 hflat2 a2
      refine ⟨x1, x2, xs, ρ id1, ρ id2, rfl, M.below, b1, b2, fun g c1 z1 n1 c2 z2 n2 e1 e2 => ?_, repL_flat hrest a3⟩
      have := M.excl id1 id2 row1 row2 _ _ _ _ _ _ _ hne m1 m2 e1 e2 (by omega)
      omega
  cases e <;> simp only [exOf] at h1 <;> first
    | cases h1
    | skip
  · simp only at h2
    split at h2
    · rename_i v hv; exact fin v hv h2
    · exact h2.elim
  · exact h2.elim
  · simp only at h2
    split at h2
    · rename_i v hv; exact fin v hv h2
    · exact h2.elim
end Go.Proofs.Ytbhbjmneglkgnaa.AI
