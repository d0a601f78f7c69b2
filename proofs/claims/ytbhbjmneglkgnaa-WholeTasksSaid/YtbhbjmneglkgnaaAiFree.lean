/- Values that name no row; values kept where only some names are. Conditions: none. -/
import Derived.Test.YtbhbjmneglkgnaaAiCode
namespace Go.Proofs.Ytbhbjmneglkgnaa.AI
open Go Go.RowKit
variable {T : TypeId} {I : Nat → Nat → Prop} {w : World} {ρ : Nat → Place}

mutual
theorem rep1_free {ρ ρ' : Nat → Place} : ∀ (v : AV) (x : Value), idFree v = true → Rep1 T I w ρ v x → Rep1 T I w ρ' v x
  | .own _ _, _, h, _ => by cases h
  | .qs _ _ _, _, h, _ => by cases h
  | .loc _ _, _, h, _ => by cases h
  | .elt _ _ _ _, _, h, _ => by cases h
  | .clo f a b, x, h, hr => by
    simp only [idFree, Bool.and_eq_true] at h
    simp only [Rep1] at hr ⊢
    obtain ⟨xs, ys, hv, h1, h2⟩ := hr
    exact ⟨xs, ys, hv, repM_free a _ h.1 h1, repM_free b _ h.2 h2⟩
  | .agg _, _, _, hr => by simp [Rep1] at hr
  | .tup _, _, _, hr => by simp [Rep1] at hr
  | .bad, _, _, _ => by simp [Rep1]
  | .int _ _, _, _, h => by simpa [Rep1] using h
  | .bit _, _, _, h => by simpa [Rep1] using h
  | .str _, _, _, h => by simpa [Rep1] using h
  | .nilI, _, _, h => by simpa [Rep1] using h
  | .err _, _, _, h => by simpa [Rep1] using h
  | .nilP, _, _, h => by simpa [Rep1] using h
  | .nilS, _, _, h => by simpa [Rep1] using h
  | .nilF, _, _, h => by simpa [Rep1] using h
  | .sl _ _ _, _, _, h => by simpa only [Rep1] using h
  | .iref _ _, _, _, h => by simpa only [Rep1] using h
theorem repL_free {ρ ρ' : Nat → Place} : ∀ (l : List AV) (xs : List Value), idFreeL l = true → RepL T I w ρ l xs → RepL T I w ρ' l xs
  | [], [], _, _ => by simp [RepL]
  | v :: r, x :: s, h, hr => by
    simp only [idFreeL, Bool.and_eq_true] at h
    simp only [RepL] at hr ⊢
    exact ⟨⟨hr.1.1, rep1_free v x h.1 hr.1.2⟩, repL_free r s h.2 hr.2⟩
  | [], _ :: _, _, h => by simp [RepL] at h
  | _ :: _, [], _, h => by simp [RepL] at h
theorem repM_free {ρ ρ' : Nat → Place} : ∀ (l : List AV) (xs : List Value), idFreeL l = true → RepM T I w ρ l xs → RepM T I w ρ' l xs
  | [], [], _, _ => by simp [RepM]
  | .agg cs :: r, x :: s, h, hr => by
    simp only [idFreeL, idFree, Bool.and_eq_true] at h
    simp only [RepM] at hr ⊢
    obtain ⟨⟨arr, hv, h1⟩, h2⟩ := hr
    exact ⟨⟨arr, hv, repL_free cs _ h.1 h1⟩, repM_free r s h.2 h2⟩
  | .tup vs :: r, x :: s, h, hr => by simp only [RepM, Rep1] at hr; exact hr.1.elim
  | .bad :: r, x :: s, h, hr => by
    rw [idFreeL, Bool.and_eq_true] at h
    simp only [RepM] at hr ⊢
    exact ⟨rep1_free (.bad) x h.1 hr.1, repM_free r s h.2 hr.2⟩
  | .int k z :: r, x :: s, h, hr => by
    rw [idFreeL, Bool.and_eq_true] at h
    simp only [RepM] at hr ⊢
    exact ⟨rep1_free (.int k z) x h.1 hr.1, repM_free r s h.2 hr.2⟩
  | .bit b :: r, x :: s, h, hr => by
    rw [idFreeL, Bool.and_eq_true] at h
    simp only [RepM] at hr ⊢
    exact ⟨rep1_free (.bit b) x h.1 hr.1, repM_free r s h.2 hr.2⟩
  | .str z :: r, x :: s, h, hr => by
    rw [idFreeL, Bool.and_eq_true] at h
    simp only [RepM] at hr ⊢
    exact ⟨rep1_free (.str z) x h.1 hr.1, repM_free r s h.2 hr.2⟩
  | .nilI :: r, x :: s, h, hr => by
    rw [idFreeL, Bool.and_eq_true] at h
    simp only [RepM] at hr ⊢
    exact ⟨rep1_free (.nilI) x h.1 hr.1, repM_free r s h.2 hr.2⟩
  | .err z :: r, x :: s, h, hr => by
    rw [idFreeL, Bool.and_eq_true] at h
    simp only [RepM] at hr ⊢
    exact ⟨rep1_free (.err z) x h.1 hr.1, repM_free r s h.2 hr.2⟩
  | .nilP :: r, x :: s, h, hr => by
    rw [idFreeL, Bool.and_eq_true] at h
    simp only [RepM] at hr ⊢
    exact ⟨rep1_free (.nilP) x h.1 hr.1, repM_free r s h.2 hr.2⟩
  | .nilS :: r, x :: s, h, hr => by
    rw [idFreeL, Bool.and_eq_true] at h
    simp only [RepM] at hr ⊢
    exact ⟨rep1_free (.nilS) x h.1 hr.1, repM_free r s h.2 hr.2⟩
  | .nilF :: r, x :: s, h, hr => by
    rw [idFreeL, Bool.and_eq_true] at h
    simp only [RepM] at hr ⊢
    exact ⟨rep1_free (.nilF) x h.1 hr.1, repM_free r s h.2 hr.2⟩
  | .clo f a b :: r, x :: s, h, hr => by
    rw [idFreeL, Bool.and_eq_true] at h
    simp only [RepM] at hr ⊢
    exact ⟨rep1_free (.clo f a b) x h.1 hr.1, repM_free r s h.2 hr.2⟩
  | .sl k n f :: r, x :: s, h, hr => by
    rw [idFreeL, Bool.and_eq_true] at h
    simp only [RepM] at hr ⊢
    exact ⟨rep1_free (.sl k n f) x h.1 hr.1, repM_free r s h.2 hr.2⟩
  | .iref k g :: r, x :: s, h, hr => by
    rw [idFreeL, Bool.and_eq_true] at h
    simp only [RepM] at hr ⊢
    exact ⟨rep1_free (.iref k g) x h.1 hr.1, repM_free r s h.2 hr.2⟩
  | .loc i j :: r, x :: s, h, hr => by
    rw [idFreeL, Bool.and_eq_true] at h
    simp only [RepM] at hr ⊢
    exact ⟨rep1_free (.loc i j) x h.1 hr.1, repM_free r s h.2 hr.2⟩
  | .elt i j k l :: r, x :: s, h, hr => by
    rw [idFreeL, Bool.and_eq_true] at h
    simp only [RepM] at hr ⊢
    exact ⟨rep1_free (.elt i j k l) x h.1 hr.1, repM_free r s h.2 hr.2⟩
  | .qs i n f :: r, x :: s, h, hr => by
    rw [idFreeL, Bool.and_eq_true] at h
    simp only [RepM] at hr ⊢
    exact ⟨rep1_free (.qs i n f) x h.1 hr.1, repM_free r s h.2 hr.2⟩
  | .own i n :: r, x :: s, h, hr => by
    rw [idFreeL, Bool.and_eq_true] at h
    simp only [RepM] at hr ⊢
    exact ⟨rep1_free (.own i n) x h.1 hr.1, repM_free r s h.2 hr.2⟩
  | [], _ :: _, _, hr => by simp only [RepM] at hr
  | _ :: _, [], _, hr => by simp only [RepM] at hr
end
theorem rep2_free {ρ ρ' : Nat → Place} (v : AV) (x : Value) (h : idFree v = true) (hr : Rep2 T I w ρ v x) : Rep2 T I w ρ' v x := by
  cases v
  case agg cs =>
    simp only [Rep2] at hr ⊢
    obtain ⟨arr, hv, hl⟩ := hr
    exact ⟨arr, hv, repL_free cs _ h hl⟩
  all_goals exact Rep2.of1 (rep1_free _ x h (by simpa only [Rep2] using hr))
theorem rep2L_free {ρ ρ' : Nat → Place} : ∀ (l : List AV) (xs : List Value), idFreeL l = true → Rep2L T I w ρ l xs → Rep2L T I w ρ' l xs
  | [], [], _, _ => trivial
  | v :: r, x :: s, h, hr => by
    simp only [idFreeL, Bool.and_eq_true] at h
    exact ⟨rep2_free v x h.1 hr.1, rep2L_free r s h.2 hr.2⟩
  | [], _ :: _, _, h => h.elim
  | _ :: _, [], _, h => h.elim
theorem rep_free {ρ ρ' : Nat → Place} (v : AV) (x : Value) (h : idFree v = true) (hr : Rep T I w ρ v x) : Rep T I w ρ' v x := by
  cases v
  case tup vs =>
    simp only [Rep] at hr ⊢
    obtain ⟨arr, hv, hl⟩ := hr
    exact ⟨arr, hv, rep2L_free vs _ h hl⟩
  all_goals exact Rep.of2 (rep2_free _ x h (by simpa only [Rep] using hr))


/-- The places of these names alone. -/
noncomputable def plK (S : List Nat) (ρ : Nat → Place) (id : Nat) : Place := open Classical in if id ∈ S then ρ id else .no
theorem plK_ext {S : List Nat} {ρ ρ' : Nat → Place} {I I' : Nat → Nat → Prop} {w w' : World} (h : ExtK S ρ I w ρ' I' w') : Ext (plK S ρ) I w ρ' I' w' :=
  ⟨fun id hid => by
    unfold plK at hid ⊢
    by_cases hm : id ∈ S
    · rw [if_pos hm] at hid ⊢
      exact h.pl id hm hid
    · rw [if_neg hm] at hid
      exact absurd rfl hid, h.im, h.ce⟩
theorem rep_K {S : List Nat} {ρ ρ' : Nat → Place} {I I' : Nat → Nat → Prop} {w w' : World} (X : ExtK S ρ I w ρ' I' w') {v : AV} (hv : tOK v = true) (hS : ∀ id, id ∈ tId v → id ∈ S) {x : Value} (h : Rep T I w ρ v x) : Rep T I' w' ρ' v x := by
  have key : ∀ {u : AV}, idFree u = true → Rep T I w ρ u x → Rep T I' w' ρ' u x := fun {u} hu hr => Rep.mono (plK_ext X) _ _ (rep_free (ρ' := plK S ρ) u x hu hr)
  cases v with
  | loc id j =>
    simp only [Rep, Rep2, Rep1] at h ⊢
    obtain ⟨g, cap, sz, n, hp, hx⟩ := h
    exact ⟨g, cap, sz, n, by rw [X.pl id (hS id (by simp [tId])) (by rw [hp]; simp), hp], hx⟩
  | own id n =>
    simp only [Rep, Rep2, Rep1] at h ⊢
    rcases h with ⟨g, cap, sz, hp, hx⟩ | ⟨sz, hp, hn, hx⟩
    · exact .inl ⟨g, cap, sz, by rw [X.pl id (hS id (by simp [tId])) (by rw [hp]; simp), hp], hx⟩
    · exact .inr ⟨sz, by rw [X.pl id (hS id (by simp [tId])) (by rw [hp]; simp), hp], hn, hx⟩
  | qs id n f =>
    simp only [Rep, Rep2, Rep1] at h ⊢
    rcases h with ⟨g, cap, e, hp, h1, h2, h3, y, hv', hy, hz⟩ | ⟨sz, hp, hx⟩
    · refine .inl ⟨g, cap, e, by rw [X.pl id (hS id (by simp [tId])) (by rw [hp]; simp), hp], h1, h2, h3, y, hv', hy, fun i hi => ?_⟩
      obtain ⟨hI, c, hc, o, hr⟩ := hz i hi
      exact ⟨X.im _ _ hI, c, (X.ce _ _ hI).trans hc, o, Rep1.mono ⟨fun _ h => absurd rfl h, X.im, X.ce⟩ _ _ hr⟩
    · exact .inr ⟨sz, by rw [X.pl id (hS id (by simp [tId])) (by rw [hp]; simp), hp], hx⟩
  | elt id i j k =>
    simp only [Rep, Rep2, Rep1] at h ⊢
    obtain ⟨g, cap, sz, n, hp, hx⟩ := h
    exact ⟨g, cap, sz, n, by rw [X.pl id (hS id (by simp [tId])) (by rw [hp]; simp), hp], hx⟩
  | _ => exact key (by simpa [tOK] using hv) h
theorem lookV_tIds {tv : List (Nat × AV)} (i : Nat) : ∀ id, id ∈ tId (lookV tv i) → id ∈ tIds tv := by
  induction tv with
  | nil => intro id h; simp [lookV, tId] at h
  | cons p r ih =>
    obtain ⟨k, v⟩ := p
    intro id h
    simp only [lookV] at h
    simp only [tIds, List.mem_append]
    split at h
    · exact .inl h
    · exact .inr (ih id h)
theorem lookV_tOK {tv : List (Nat × AV)} (h : (tv.all fun p => tOK p.2) = true) (i : Nat) : tOK (lookV tv i) = true := by
  induction tv with
  | nil => rfl
  | cons p r ih =>
    obtain ⟨k, v⟩ := p
    simp only [List.all_cons, Bool.and_eq_true] at h
    simp only [lookV]
    split
    · exact h.1
    · exact ih h.2
theorem lookV_drop {dr : List Nat} {tv : List (Nat × AV)} (i : Nat) : lookV (dropV dr tv) i = lookV tv i ∨ lookV (dropV dr tv) i = .bad := by
  by_cases hd : dr.any (Nat.beq i) = true
  · right
    induction tv with
    | nil => rfl
    | cons p r ih =>
      obtain ⟨k, v⟩ := p
      simp only [dropV]
      split
      · exact ih
      · rename_i hk
        simp only [lookV]
        split
        · rename_i hb
          have := Nat.eq_of_beq_eq_true hb
          subst this
          rw [hd] at hk; cases hk
        · exact ih
  · left
    induction tv with
    | nil => rfl
    | cons p r ih =>
      obtain ⟨k, v⟩ := p
      simp only [dropV]
      split
      · rename_i hk
        simp only [lookV]
        split
        · rename_i hb
          have := Nat.eq_of_beq_eq_true hb
          subst this
          exact absurd hk hd
        · exact ih
      · simp only [lookV]
        split
        · rfl
        · exact ih
end Go.Proofs.Ytbhbjmneglkgnaa.AI
