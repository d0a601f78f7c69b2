/- append to a row whose old name is given up: the row may be stored into again. Conditions: none. -/
import Derived.Test.YtbhbjmneglkgnaaAiFree
namespace Go.Proofs.Ytbhbjmneglkgnaa.AI
open Go Go.RowKit

variable {P : Program} {E : Env} {T : TypeId} {B : Nat} {w0 : World} {I0 : Nat → Nat → Prop} {ρ ρ' : Nat → Place} {I I' : Nat → Nat → Prop} {m : Nat → Option Row} {w w' : World}

theorem beq_ne {a b : Nat} (h : a ≠ b) : Nat.beq a b = false := by
  cases hq : Nat.beq a b
  · rfl
  · exact absurd (Nat.eq_of_beq_eq_true hq) h
theorem any_beq {S : List Nat} {id : Nat} (h : S.any (Nat.beq id) = false) : ∀ k, k ∈ S → k ≠ id := by
  intro k hk e
  subst e
  rw [List.any_eq_false] at h
  exact h k hk (by simp)

theorem rep1_K {S : List Nat} (X : ExtK S ρ I w ρ' I' w') {v : AV} (hv : tOK v = true) (hS : ∀ id, id ∈ tId v → id ∈ S) {x : Value} (h : Rep1 T I w ρ v x) : Rep1 T I' w' ρ' v x := by
  have := rep_K X hv hS (Rep.of1 h)
  cases v
  case agg => simp [Rep1] at h
  case tup => simp [Rep1] at h
  all_goals simpa only [Rep, Rep2] using this

def dropM (m : Nat → Option Row) (id : Nat) : Nat → Option Row := fun q => match Nat.beq q id with | true => none | false => m q
theorem dropM_self (m : Nat → Option Row) (id : Nat) : dropM m id id = none := by simp [dropM]
theorem dropM_other (m : Nat → Option Row) {id q : Nat} (h : q ≠ id) : dropM m id q = m q := by simp [dropM, beq_ne h]

theorem extK_drop {S : List Nat} {id : Nat} (hS : ∀ k, k ∈ S → k ≠ id) : ExtK S ρ I w (updP ρ id .no) I w :=
  ⟨fun k hk _ => by simp [updP, hS k hk], fun _ _ h => h, fun _ _ _ => rfl⟩

/-- A name is given up. -/
theorem MRel.drop (M : MRel T B w0 I0 ρ I m w) (id : Nat) (hbx : ∀ k r, k ≠ id → m k = some r → r.bx = true → ∀ i j, i < r.n → j < r.sz → tOK (r.f i j) = true ∧ (tId (r.f i j)).any (Nat.beq id) = false) :
    MRel T B w0 I0 (updP ρ id .no) I (dropM m id) w := by
  have hv : ∀ k, k ≠ id → updP ρ id .no k = ρ k := fun k h => by simp [updP, h]
  refine ⟨fun k h => ?_, fun k r hr => ?_, fun k k' r r' g cap sz n cap' sz' n' hne h1 h2 h3 h4 h5 => ?_, M.ilt, M.i0, M.inew, M.below, M.hB⟩
  · by_cases e : k = id
    · subst e; simp [updP]
    · rw [hv k e]; exact M.dom k (by rw [← h, dropM_other m e])
  · by_cases e : k = id
    · subst e; rw [dropM_self] at hr; cases hr
    · rw [dropM_other m e] at hr
      rw [hv k e]
      have h := M.rows k r hr
      cases hp : ρ k with
      | no => rw [hp] at h; exact h
      | nil sz => rw [hp] at h; exact h
      | «at» g cap sz n =>
        rw [hp] at h
        obtain ⟨h1, h2, h3, h4, h5, ⟨arr, ha, hs, hc⟩, h6, h7⟩ := h
        refine ⟨h1, h2, h3, h4, h5, ⟨arr, ha, hs, fun i j hi hj => ?_⟩, h6, h7⟩
        obtain ⟨c, c1, c2, c3⟩ := hc i j hi hj
        refine ⟨c, c1, c2, ?_⟩
        cases hb : r.bx with
        | false => rw [hb] at c3; exact c3
        | true =>
          rw [hb] at c3
          obtain ⟨t1, t2⟩ := hbx k r e hr hb i j (by rw [← h2]; exact hi) (by rw [← h1]; exact hj)
          exact rep1_K (S := tId (r.f i j)) (extK_drop (any_beq t2)) t1 (fun _ h => h) c3
  · by_cases e : k = id
    · subst e; rw [dropM_self] at h1; cases h1
    · by_cases e' : k' = id
      · subst e'; rw [dropM_self] at h2; cases h2
      · rw [dropM_other m e] at h1
        rw [dropM_other m e'] at h2
        rw [hv k e] at h3
        rw [hv k' e'] at h4
        exact M.excl k k' r r' g cap sz n cap' sz' n' hne h1 h2 h3 h4 h5

/-- A block of which nothing is known is written. -/
theorem MRel.wG (M : MRel T B w0 I0 ρ I m w) {g : Nat} (hos : w'.os = w.os) (htape : w'.tape = w.tape) (hout : w'.output = w.output) (hsize : w'.heap.size = w.heap.size) (hother : ∀ b, b ≠ g → w'.heap[b]? = w.heap[b]?)
    (hno : ∀ id cap sz n, ρ id = .at g cap sz n → False) (hI : ∀ k, ¬ I g k) (hB : B ≤ g) : Ext ρ I w ρ I w' ∧ MRel T B w0 I0 ρ I m w' := by
  have X : Ext ρ I w ρ I w' := ⟨fun _ _ => rfl, fun _ _ h => h, fun b k h => by
    have : b ≠ g := by rintro rfl; exact hI k h
    simp [World.cell?, hother b this]⟩
  refine ⟨X, M.dom, fun k r hr => ?_, M.excl, fun b k h => by rw [hsize]; exact M.ilt b k h, M.i0, M.inew, M.below.trans ⟨hos, htape, hout, by rw [hsize]; exact Nat.le_refl _, fun b hb => hother b (by omega)⟩, by rw [hsize]; exact M.hB⟩
  have h := M.rows k r hr
  cases hp : ρ k with
  | no => rw [hp] at h; exact h
  | nil sz => rw [hp] at h; exact h
  | «at» g1 cap sz n =>
    rw [hp] at h
    obtain ⟨h1, h2, h3, h4, h5, ⟨arr, ha, hs, hc⟩, h6, h7⟩ := h
    have hg : g1 ≠ g := by rintro rfl; exact hno _ _ _ _ hp
    refine ⟨h1, h2, h3, h4, h5, ⟨arr, by rw [hother g1 hg]; exact ha, hs, fun i j hi hj => ?_⟩, h6, h7⟩
    obtain ⟨c, c1, c2, c3⟩ := hc i j hi hj
    exact ⟨c, c1, c2, Rep1.mono (X.plOf _) _ _ c3⟩

def eatM (m : Nat → Option Row) (id d : Nat) (r : Row) : Nat → Option Row := fun q => match Nat.beq q d with
  | true => some r
  | false => match Nat.beq q id with
    | true => none
    | false => m q
theorem eatM_eq {m : Nat → Option Row} {id d : Nat} {r : Row} : effM (dropM m id) d (some r) fz0 = eatM m id d r := by
  funext q
  by_cases h : q = d
  · subst h; rw [effM_self]; simp [eatM]
  · rw [effM_other _ _ _ _ h]
    simp only [eatM, beq_ne h, dropM]
    cases Nat.beq q id
    · cases m q <;> rfl
    · rfl

theorem eat_sound (M : MRel T B w0 I0 ρ I m w) {d id : Nat} (hd : m d = none) (hne : d ≠ id) {t e ty : TypeId} {te : TD} {ie : TypeInfo} {ze : Value} (hu : P.underlying t = some (.slice e)) (ge : TdGives P e te ie ze) (hts : 0 < te.size)
    {x : AV} {xv : Value} {k : Nat} {g : Nat → Nat → AV} (hnews : newsOf te.size x (rowOf m x) = some (k, g)) (hx : Rep T I w ρ x xv)
    {n : Nat} {q : Row} {sv : Value} (hm : m id = some q) (hqe : q.e = e) (hqs : q.sz = te.size) (hst : q.st = 0) (hqb : q.bx = false) (hrep : Rep T I w ρ (.own id n) sv) (hb : (n + k) * te.bytes ≤ 140737488355328) (hk : n + k ≤ 9223372036854775807)
    (hbx : ∀ k r, k ≠ id → m k = some r → r.bx = true → ∀ i j, i < r.n → j < r.sz → tOK (r.f i j) = true ∧ (tId (r.f i j)).any (Nat.beq id) = false) :
    ∃ v w' ρ', (Builtin.append_ #[t, t] ty #[sv, xv]).run P w = .ok v w' ∧ (∀ S : List Nat, (∀ k, k ∈ S → k ≠ id) → ExtK S ρ I w ρ' I w') ∧ MRel T B w0 I0 ρ' I (eatM m id d ⟨e, te.size, n + k, appF n q.f g, 0, false⟩) w' ∧ Rep T I w' ρ' (.own d (n + k)) v := by
  obtain ⟨xa, xc, rfl, hn⟩ := news_of M hnews hx
  have D := M.drop id hbx
  have hdd : dropM m id d = none := by rw [dropM_other m hne]; exact hd
  have hpd : updP ρ id .no d = .no := D.dom d hdd
  have XD : ∀ S : List Nat, (∀ k, k ∈ S → k ≠ id) → ExtK S ρ I w (updP ρ id .no) I w := fun S hS => extK_drop hS
  have hexcl : ∀ id' g0 cap sz n cap' sz' n', id' ≠ id → ρ id = .at g0 cap sz n → ρ id' = .at g0 cap' sz' n' → False := fun id' g0 cap sz n cap' sz' n' hne' hp hp' => by
    obtain ⟨r', hm', _⟩ := M.at_ hp'
    obtain ⟨h, _⟩ := M.excl id id' q r' g0 cap sz n cap' sz' n' (Ne.symm hne') hm hm' hp hp' (by omega)
    omega
  have Dd := D.world (below_drew w) (I' := I) (fun _ _ h => h) (fun _ _ h => .inl h) (fun b j h => M.ilt b j h)
  have X0 : Ext (updP ρ id .no) I w (updP ρ id .no) I w.drew := Ext.of_below M.ilt (below_drew w) fun _ _ h => h
  simp only [Rep, Rep2, Rep1] at hrep
  rcases hrep with ⟨g0, cap, sz, hp, rfl⟩ | ⟨sz, hp, rfl, rfl⟩
  · obtain ⟨q1, q2, q3, q4⟩ := M.sz hp hm
    rw [hqs] at q1
    subst q1
    have hrow := M.rows id q hm
    rw [hp] at hrow
    obtain ⟨_, _, e3, _, _, ⟨arr, ha, hs, hcells⟩, e6, e7⟩ := hrow
    rw [hqe] at ha
    have hI : ∀ k, ¬ I g0 k := e6 hst
    have hbxp : plOf q.bx ρ = noPl := by rw [hqb]; rfl
    have hnog : ∀ id' cap sz n, updP ρ id .no id' = .at g0 cap sz n → False := fun id' cap' sz' n' h => by
      by_cases he : id' = id
      · subst he; simp [updP] at h
      · simp [updP, he] at h; exact hexcl id' g0 _ _ _ _ _ _ he hp h
    by_cases hroom : n + k ≤ cap
    · have hfin : ∃ arr' w', (Builtin.append_ #[t, t] ty #[.slice (some ⟨g0, 0, none⟩) n cap, .slice xa k xc]).run P w = .ok (.slice (some ⟨g0, 0, none⟩) (n + k) cap) w' ∧ arr'.size = arr.size ∧
          (∀ i, i < n * te.size → arr'[i]? = arr[i]?) ∧ w'.os = w.os ∧ w'.tape = w.tape ∧ w'.output = w.output ∧ w'.heap.size = w.heap.size ∧ (∀ b, b ≠ g0 → w'.heap[b]? = w.heap[b]?) ∧
          w'.heap[g0]? = some (.cells arr' e (0, 0)) ∧ ∀ i j, n ≤ i → i < n + k → j < te.size → ∃ c, arr'[i * te.size + j]? = some c ∧ c.oneCell' = true ∧ Rep1 T I w noPl (g (i - n) j) c := by
        rcases Nat.eq_zero_or_pos k with rfl | hkp
        · exact ⟨arr, w, run_append_zero hu ge.info _ xa n cap xc (by omega), rfl, fun _ _ => rfl, rfl, rfl, rfl, rfl, fun _ _ => rfl, ha, fun i j h1 h2 => by omega⟩
        · obtain ⟨b, o, rfl, hc⟩ := hn hkp
          obtain ⟨f1, f2, f3, f4⟩ := newsL_facts hts hc
          have hfit : n * te.size + (newsL w b o (k * te.size)).length ≤ arr.size := by
            rw [f1, hs, ← Nat.add_mul]; exact Nat.mul_le_mul_right _ hroom
          have hrun := run_append_room (P := P) w t ty e ie hu ge.info g0 n cap arr ha ⟨b, o, none⟩ k xc (newsL w b o (k * te.size)) (by rw [ge.size]; exact f1) f2 f3 hroom (by rw [ge.size]; exact hfit)
          rw [ge.size] at hrun
          have hnl : n * te.size ≤ arr.size := by omega
          refine ⟨_, _, hrun, ?_, fun i hi => ?_, rfl, rfl, rfl, by simp, fun b' hb' => setRow_other w g0 b' _ hb', setRow_heap w g0 arr _ e _ ha, fun i j h1 h2 hj => ?_⟩
          · simp only [List.size_toArray, List.length_append, List.length_take, List.length_drop, Array.length_toList]
            omega
          · rw [List.getElem?_toArray, List.append_assoc, List.getElem?_append_left (by rw [List.length_take, Array.length_toList]; omega), List.getElem?_take_of_lt hi, Array.getElem?_toList]
          · obtain ⟨c, c1, c2, c3⟩ := f4 (i - n) j (by omega) hj
            refine ⟨c, ?_, c2, c3⟩
            have h4 : n * te.size ≤ i * te.size := Nat.mul_le_mul_right _ h1
            have h5 : (i - n) * te.size + j < k * te.size := row_index (by omega) hj
            have h6 : (i - n) * te.size = i * te.size - n * te.size := Nat.sub_mul _ _ _
            have h7 : (List.take (n * te.size) arr.toList).length = n * te.size := by rw [List.length_take, Array.length_toList, Nat.min_eq_left hnl]
            rw [List.getElem?_toArray, List.append_assoc, List.getElem?_append_right (by rw [h7]; omega), h7, List.getElem?_append_left (by rw [f1]; omega), ← c1]
            congr 1; omega
      obtain ⟨arr', w', hrun, a1, a2, a3, a4, a5, a6, a7, a8, a9⟩ := hfin
      obtain ⟨X1, D1⟩ := D.wG (w' := w') a3 a4 a5 a6 a7 hnog hI e3
      have D2 := D1.new_ (d := d) (r := ⟨e, te.size, n + k, appF n q.f g, 0, false⟩) (p := .at g0 cap te.size (n + k)) hdd ⟨rfl, rfl, e3, hroom, q4, ⟨arr', a8, by rw [a1]; exact hs, fun i j hi hj => by
          show ∃ c, _ ∧ _ ∧ Rep1 T I w' noPl (appF n q.f g i j) c
          by_cases h : i < n
          · have hb' : Nat.blt i n = true := by simpa using h
            simp only [appF, hb']
            obtain ⟨c, c1, c2, c3⟩ := hcells i j h hj
            rw [hbxp] at c3
            exact ⟨c, by rw [a2 _ (row_index h hj)]; exact c1, c2, Rep1.mono X1.none_ _ _ c3⟩
          · have hb' : Nat.blt i n = false := by
              cases hb : Nat.blt i n
              · rfl
              · exact absurd (by simpa using hb) h
            simp only [appF, hb']
            obtain ⟨c, c1, c2, c3⟩ := a9 i j (by omega) hi hj
            exact ⟨c, c1, c2, Rep1.mono X1.none_ _ _ c3⟩⟩, fun _ => hI, fun h => by cases h⟩ (fun g' cap' sz' n' h id' c2 s2 n2 h2 => by
        injection h with h
        subst h
        exact hnog id' _ _ _ h2)
      rw [eatM_eq] at D2
      refine ⟨_, w', _, hrun, fun S hS => ((XD S hS).trans (.of (S := S) X1) fun _ h => h).trans (.of (S := S) (Ext.upd hpd)) fun _ h => h, D2, ?_⟩
      simp only [Rep, Rep2, Rep1]
      exact .inl ⟨_, _, _, upd_self _ _ _, rfl⟩
    · have hkp : 0 < k := by omega
      obtain ⟨b, o, rfl, hc⟩ := hn hkp
      obtain ⟨f1, f2, f3, f4⟩ := newsL_facts hts hc
      have holdc : ∀ i j, i < n → j < te.size → ∃ c, w.cell? ⟨g0, 0 + (i * te.size + j), none⟩ = some c ∧ c.oneCell' = true ∧ Rep1 T I w noPl (q.f i j) c := fun i j hi hj => by
        obtain ⟨c, c1, c2, c3⟩ := hcells i j hi hj
        rw [hbxp] at c3
        exact ⟨c, by rw [Nat.zero_add, cell_of ha]; exact c1, c2, c3⟩
      obtain ⟨o1, o2, _, o4⟩ := newsL_facts hts holdc
      have hrun := run_append_grow (P := P) w t ty e ie ze hu ge.info ge.zero ⟨g0, 0, none⟩ n cap (newsL w g0 0 (n * te.size)) (by rw [ge.size]; exact o1) o2 ⟨b, o, none⟩ k xc (newsL w b o (k * te.size)) (by rw [ge.size]; exact f1) f2
        (by omega) (by omega) (growslice_fits (by omega) (by rw [ge.bytes]; exact hb))
      have hge := grownCap_ge w (n + k) cap e
      have hle := grownCap_le_maxLen w (n + k) cap e (by unfold maxLen; omega)
      obtain ⟨g1, g2, g3⟩ := grown_cells (ts := te.size) (n := n) (k := k) (cap := grownCap w (n + k) cap e) (olds := newsL w g0 0 (n * te.size)) (news := newsL w b o (k * te.size)) (zs := Builtin.zeroCells ze.cells (grownCap w (n + k) cap e - (n + k)))
        o1 f1 (by rw [size_zeroCells, ge.zsize]) hge
      obtain ⟨X, M'⟩ := Dd.block (d := d) hdd (arr := (newsL w g0 0 (n * te.size)).toArray ++ (newsL w b o (k * te.size)).toArray ++ Builtin.zeroCells ze.cells (grownCap w (n + k) cap e - (n + k))) (e := e) (cap := grownCap w (n + k) cap e)
        (sz := te.size) (n := n + k) (f := appF n q.f g) (st := 0) (bx := false) g1 hge hle (fun i j hi hj => by
        by_cases h : i < n
        · have hb' : Nat.blt i n = true := by simpa using h
          simp only [appF, hb']
          obtain ⟨c, c1, c2, c3⟩ := o4 i j h hj
          exact ⟨c, by rw [g2 i j h hj]; exact c1, c2, Rep1.mono X0.none_ _ _ c3⟩
        · have hb' : Nat.blt i n = false := by
            cases hb : Nat.blt i n
            · rfl
            · exact absurd (by simpa using hb) h
          simp only [appF, hb']
          obtain ⟨c, c1, c2, c3⟩ := f4 (i - n) j (by omega) hj
          exact ⟨c, by rw [g3 i j (by omega) hi hj]; exact c1, c2, Rep1.mono X0.none_ _ _ c3⟩)
      rw [eatM_eq] at M'
      refine ⟨_, _, _, hrun, fun S hS => (XD S hS).trans (.of (S := S) (X0.trans X)) fun _ h => h, M', ?_⟩
      simp only [Rep, Rep2, Rep1]
      exact .inl ⟨_, _, _, upd_self _ _ _, rfl⟩
  · have hz : (appF 0 q.f g) = g := by
      funext i j
      have : Nat.blt i 0 = false := rfl
      simp only [appF, this, Nat.sub_zero]
    simp only [Nat.zero_add, hz] at hb hk ⊢
    rcases Nat.eq_zero_or_pos k with rfl | hkp
    · have M' := D.new_ (d := d) (r := ⟨e, te.size, 0, g, 0, false⟩) (p := .nil te.size) hdd ⟨rfl, rfl⟩ (fun _ _ _ _ h => by cases h)
      rw [eatM_eq] at M'
      refine ⟨_, w, _, run_append_zero hu ge.info none xa 0 0 xc (Nat.le_refl _), fun S hS => (XD S hS).trans (.of (S := S) (Ext.upd hpd)) fun _ h => h, M', ?_⟩
      simp only [Rep, Rep2, Rep1]
      exact .inr ⟨_, upd_self _ _ _, by simp⟩
    · obtain ⟨b, o, rfl, hc⟩ := hn hkp
      obtain ⟨f1, f2, f3, f4⟩ := newsL_facts hts hc
      have hrun := run_append_nil (P := P) w t ty e ie ze hu ge.info ge.zero ⟨b, o, none⟩ k xc (newsL w b o (k * te.size)) (by rw [ge.size]; exact f1) f2 hkp (by omega) (by rw [ge.bytes]; omega)
      have hge := grownCap_ge w k 0 e
      have hle := grownCap_le_maxLen w k 0 e (by unfold maxLen; omega)
      obtain ⟨g1, g2, g3⟩ := grown_cells (ts := te.size) (n := 0) (k := k) (cap := grownCap w k 0 e) (olds := []) (news := newsL w b o (k * te.size)) (zs := Builtin.zeroCells ze.cells (grownCap w k 0 e - k))
        (by simp) f1 (by rw [size_zeroCells, ge.zsize, Nat.zero_add]) (by omega)
      simp only [Array.empty_append] at g1 g2 g3
      obtain ⟨X, M'⟩ := Dd.block (d := d) hdd (arr := (newsL w b o (k * te.size)).toArray ++ Builtin.zeroCells ze.cells (grownCap w k 0 e - k)) (e := e) (cap := grownCap w k 0 e) (sz := te.size) (n := k) (f := g) (st := 0) (bx := false)
        g1 hge hle (fun i j hi hj => by
          obtain ⟨c, c1, c2, c3⟩ := f4 i j hi hj
          refine ⟨c, ?_, c2, Rep1.mono X0.none_ _ _ c3⟩
          rw [g3 i j (by omega) (by omega) hj]
          exact c1)
      rw [eatM_eq] at M'
      refine ⟨_, _, _, hrun, fun S hS => (XD S hS).trans (.of (S := S) (X0.trans X)) fun _ h => h, M', ?_⟩
      simp only [Rep, Rep2, Rep1]
      exact .inl ⟨_, _, _, upd_self _ _ _, rfl⟩

/-- append at a place inside a block. -/
theorem run_append_roomX (w : World) (t ty e : TypeId) (i : TypeInfo) (ht : P.underlying t = some (.slice e)) (hi : P.info? e = some i) (h1i : i.size = 1)
    (g x sLen sCap : Nat) (cur : Array Value) (hg : w.heap[g]? = some (.cells cur e (0, 0)))
    (a : Addr) (m c : Nat) (news : List Value) (hl : news.length = m) (hnews : ∀ j u, news[j]? = some u → w.cell? (a.add j) = some u) (h1 : ∀ u ∈ news, u.oneCell' = true)
    (hroom : sLen + m ≤ sCap) (hfit : x + sLen + news.length ≤ cur.size) :
    (Builtin.append_ #[t, t] ty #[.slice (some ⟨g, x, none⟩) sLen sCap, .slice (some a) m c]).run P w =
      .ok (.slice (some ⟨g, x, none⟩) (sLen + m) sCap) (w.setRow g (cur.toList.take (x + sLen) ++ news ++ cur.toList.drop (x + sLen + news.length)).toArray) := by
  have hf := run_firstCells_some (P := P) w i.size m a m c news (by rw [h1i, Nat.mul_one]; exact hl) hnews
  have hst := run_storeCells_at P g (x + sLen) e news 0 cur w hg (by simpa using hfit) h1
  simp only [Nat.add_zero] at hst
  simp only [h1i] at hf
  simp [Builtin.append_, run_underlying ht, sizeOf, typeInfo, hi, h1i, Builtin.lenOf, hroom, hf, Addr.add_lit, hst]

/-- The row of a slice, under its name, with another end. -/
theorem MRel.reRow (M : MRel T B w0 I0 ρ I m w) {id : Nat} {q : Row} (hm : m id = some q) (hst : q.st = 1)
    (hbx : ∀ k r, k ≠ id → m k = some r → r.bx = true → ∀ i j, i < r.n → j < r.sz → tOK (r.f i j) = true ∧ (tId (r.f i j)).any (Nat.beq id) = false)
    {m' : Nat → Option Row} (hm' : ∀ k, k ≠ id → m' k = m k) {g cap en : Nat} {arr : Array Value} {e : TypeId} (hid : m' id = some ⟨e, 1, en, fun _ _ => .bad, 1, false⟩)
    (hos : w'.os = w.os) (htape : w'.tape = w.tape) (hout : w'.output = w.output) (hsize : w.heap.size ≤ w'.heap.size) (hother : ∀ b, b ≠ g → b < w.heap.size → w'.heap[b]? = w.heap[b]?)
    (hB : B ≤ g) (hg : w'.heap[g]? = some (.cells arr e (0, 0))) (hen : en ≤ cap) (hcap : cap ≤ maxLen) (hsz : arr.size = cap) (hone : ∀ j, j < en → ∃ c, arr[j]? = some c ∧ c.oneCell' = true)
    (hold : w.heap.size ≤ g ∨ (∃ cap0 en0 arr0, ρ id = .at g cap0 1 en0 ∧ en0 ≤ en ∧ w.heap[g]? = some (.cells arr0 e (0, 0)) ∧ arr.size = arr0.size ∧ ∀ j, j < en0 → arr[j]? = arr0[j]?)) :
    (∀ S : List Nat, (∀ k, k ∈ S → k ≠ id) → ExtK S ρ I w (updP ρ id (.at g cap 1 en)) (fun b j => I b j ∨ (b = g ∧ j < en)) w') ∧ MRel T B w0 I0 (updP ρ id (.at g cap 1 en)) (fun b j => I b j ∨ (b = g ∧ j < en)) m' w' := by
  have hIold : w.heap.size ≤ g → ∀ k, ¬ I g k := fun h k hk => absurd (M.ilt _ _ hk) (by omega)
  have hrow := M.rows id q hm
  have hcell : ∀ b k, I b k → w'.cell? ⟨b, k, none⟩ = w.cell? ⟨b, k, none⟩ := fun b k hk => by
    by_cases hbg : b = g
    · subst hbg
      rcases hold with h | ⟨cap0, en0, arr0, hp, _, h0, _, hpre⟩
      · exact absurd hk (hIold h k)
      · rw [hp] at hrow
        obtain ⟨a1, _, _, _, _, _, _, a8⟩ := hrow
        have := a8 hst k hk
        rw [cell_of hg, cell_of h0]
        exact hpre k (by omega)
    · simp [World.cell?, hother b hbg (M.ilt _ _ hk)]
  have hv : ∀ k, k ≠ id → updP ρ id (.at g cap 1 en) k = ρ k := fun k h => by simp [updP, h]
  have XS : ∀ S : List Nat, (∀ k, k ∈ S → k ≠ id) → ExtK S ρ I w (updP ρ id (.at g cap 1 en)) (fun b j => I b j ∨ (b = g ∧ j < en)) w' := fun S hS =>
    ⟨fun k hk _ => hv k (hS k hk), fun _ _ h => .inl h, hcell⟩
  have X0 : Ext noPl I w noPl (fun b j => I b j ∨ (b = g ∧ j < en)) w' := ⟨fun _ h => absurd rfl h, fun _ _ h => .inl h, hcell⟩
  have hexcl : ∀ k r g1 cap1 sz1 n1, k ≠ id → m k = some r → ρ k = .at g1 cap1 sz1 n1 → g1 = g → r.st = 2 ∧ n1 * sz1 ≤ en ∧ ∃ arr0, w.heap[g]? = some (.cells arr0 e (0, 0)) ∧ arr.size = arr0.size ∧ ∀ j, j < n1 * sz1 → arr[j]? = arr0[j]? := by
    rintro k r g1 cap1 sz1 n1 hk hr hp1 rfl
    rcases hold with h | ⟨cap0, en0, arr0, hp, hle, h0, hs, hpre⟩
    · have := M.lt_ hp1; omega
    · obtain ⟨_, q2, q3⟩ := M.excl id k q r g1 cap0 1 en0 cap1 sz1 n1 (Ne.symm hk) hm hr hp hp1 (by omega)
      exact ⟨q2, by omega, arr0, h0, hs, fun j hj => hpre j (by omega)⟩
  refine ⟨XS, fun k h => ?_, fun k r hr => ?_, fun k k' r r' g1 cap1 sz1 n1 cap2 sz2 n2 hne h1 h2 h3 h4 h5 => ?_, fun b k h => ?_, fun b k h => .inl (M.i0 b k h), fun b k h => ?_, M.below.trans ⟨hos, htape, hout, hsize, fun b hb => hother b (by omega) (Nat.lt_of_lt_of_le hb M.hB)⟩, Nat.le_trans M.hB hsize⟩
  · by_cases e : k = id
    · subst e; rw [hid] at h; cases h
    · rw [hv k e]; exact M.dom k (by rw [← hm' k e]; exact h)
  · by_cases ek : k = id
    · subst ek
      rw [hid] at hr
      injection hr with hr
      subst hr
      rw [upd_self]
      refine ⟨rfl, rfl, hB, hen, hcap, ⟨arr, hg, by rw [hsz, Nat.mul_one], fun i j hi hj => ?_⟩, (fun h => by cases h), fun _ k hk => ?_⟩
      · have : j = 0 := by omega
        subst this
        obtain ⟨c, c1, c2⟩ := hone i hi
        exact ⟨c, by rw [Nat.mul_one, Nat.add_zero]; exact c1, c2, by simp [Rep1]⟩
      · rw [Nat.mul_one]
        rcases hk with hk | ⟨_, hk⟩
        · rcases hold with h | ⟨cap0, en0, arr0, hp, hle, _⟩
          · exact absurd hk (hIold h k)
          · rw [hp] at hrow
            obtain ⟨_, _, _, _, _, _, _, a8⟩ := hrow
            have := a8 hst k hk
            omega
        · exact hk
    · rw [hm' k ek] at hr
      rw [hv k ek]
      have h := M.rows k r hr
      cases hp : ρ k with
      | no => rw [hp] at h; exact h
      | nil sz => rw [hp] at h; exact h
      | «at» g1 cap1 sz1 n1 =>
        rw [hp] at h
        obtain ⟨y1, y2, y3, y4, y5, ⟨arr1, ya, ys, yc⟩, y6, y7⟩ := h
        have hlt1 : g1 < w.heap.size := heap_lt ya
        have hrep : ∀ i j, i < n1 → j < sz1 → ∀ c, Rep1 T I w (plOf r.bx ρ) (r.f i j) c → Rep1 T (fun b j => I b j ∨ (b = g ∧ j < en)) w' (plOf r.bx (updP ρ id (.at g cap 1 en))) (r.f i j) c := fun i j hi hj c c3 => by
          cases hb : r.bx with
          | false => rw [hb] at c3; exact Rep1.mono X0 _ _ c3
          | true =>
            rw [hb] at c3
            obtain ⟨t1, t2⟩ := hbx k r ek hr hb i j (by rw [← y2]; exact hi) (by rw [← y1]; exact hj)
            exact rep1_K (S := tId (r.f i j)) (XS _ (any_beq t2)) t1 (fun _ h => h) c3
        by_cases hgg : g1 = g
        · obtain ⟨z1, z2, arr0, z3, z4, z5⟩ := hexcl k r g1 cap1 sz1 n1 ek hr hp hgg
          subst hgg
          rw [z3] at ya
          injection ya with ya
          injection ya with ya yb
          subst ya
          refine ⟨y1, y2, y3, y4, y5, ⟨arr, by rw [hg, yb], by rw [z4]; exact ys, fun i j hi hj => ?_⟩, fun h => by omega, fun h => by omega⟩
          obtain ⟨c, c1, c2, c3⟩ := yc i j hi hj
          exact ⟨c, by rw [z5 _ (row_index hi hj)]; exact c1, c2, hrep i j hi hj c c3⟩
        · refine ⟨y1, y2, y3, y4, y5, ⟨arr1, by rw [hother g1 hgg hlt1]; exact ya, ys, fun i j hi hj => ?_⟩, fun h0 j hj => ?_, fun h0 j hj => ?_⟩
          · obtain ⟨c, c1, c2, c3⟩ := yc i j hi hj
            exact ⟨c, c1, c2, hrep i j hi hj c c3⟩
          · rcases hj with hj | ⟨hj, _⟩
            · exact y6 h0 j hj
            · exact hgg hj
          · rcases hj with hj | ⟨hj, _⟩
            · exact y7 h0 j hj
            · exact absurd hj hgg
  · by_cases e1 : k = id
    · subst e1
      rw [upd_self] at h3
      injection h3 with z1 z2 z3 z4
      subst z1; subst z2; subst z3; subst z4
      rw [hv k' (Ne.symm hne)] at h4
      rw [hm' k' (Ne.symm hne)] at h2
      rw [hid] at h1
      injection h1 with h1
      subst h1
      obtain ⟨z1, z2, _⟩ := hexcl k' r' _ _ _ _ (Ne.symm hne) h2 h4 rfl
      exact ⟨rfl, z1, by rw [Nat.mul_one]; exact z2⟩
    · rw [hv k e1] at h3
      rw [hm' k e1] at h1
      by_cases e2 : k' = id
      · subst e2
        rw [upd_self] at h4
        injection h4 with z1 z2 z3 z4
        obtain ⟨z5, _, _⟩ := hexcl k r _ _ _ _ e1 h1 h3 z1.symm
        exact absurd z5 h5
      · rw [hv k' e2] at h4
        rw [hm' k' e2] at h2
        exact M.excl k k' r r' g1 cap1 sz1 n1 cap2 sz2 n2 hne h1 h2 h3 h4 h5
  · rcases h with h | ⟨rfl, _⟩
    · exact Nat.lt_of_lt_of_le (M.ilt b k h) hsize
    · exact heap_lt hg
  · rcases h with h | ⟨rfl, _⟩
    · exact M.inew b k h
    · exact .inr hB

theorem qapp_sound (M : MRel T B w0 I0 ρ I m w) {id : Nat} {t e ty : TypeId} {te : TD} {ie : TypeInfo} {ze : Value} (hu : P.underlying t = some (.slice e)) (ge : TdGives P e te ie ze) (hts : te.size = 1)
    {x : AV} {xv : Value} {k : Nat} {g : Nat → Nat → AV} (hnews : newsOf 1 x (rowOf m x) = some (k, g)) (hkp : 0 < k) (hx : Rep T I w ρ x xv)
    {n en : Nat} {f fr : Nat → Nat → AV} {sv : Value} (hm : m id = some ⟨e, 1, en, fr, 1, false⟩) (hrep : Rep T I w ρ (.qs id n f) sv) (hb : (n + k) * te.bytes ≤ 140737488355328) (hk : n + k ≤ 9223372036854775807)
    (hbx : ∀ k r, k ≠ id → m k = some r → r.bx = true → ∀ i j, i < r.n → j < r.sz → tOK (r.f i j) = true ∧ (tId (r.f i j)).any (Nat.beq id) = false)
    (m' : Nat → Nat → Option Row) (hm' : ∀ e' k, k ≠ id → m' e' k = m k) (hid : ∀ e', m' e' id = some ⟨e, 1, e', fun _ _ => .bad, 1, false⟩) :
    ∃ v w' ρ' I' e', (Builtin.append_ #[t, t] ty #[sv, xv]).run P w = .ok v w' ∧ (∀ S : List Nat, (∀ k, k ∈ S → k ≠ id) → ExtK S ρ I w ρ' I' w') ∧ MRel T B w0 I0 ρ' I' (m' e') w' ∧ Rep T I' w' ρ' (.qs id (n + k) (appF n f g)) v := by
  have hts0 : 0 < te.size := by omega
  rw [← hts] at hnews
  obtain ⟨xa, xc, rfl, hn⟩ := news_of M hnews hx
  obtain ⟨b, o, rfl, hc⟩ := hn hkp
  obtain ⟨f1, f2, f3, f4⟩ := newsL_facts hts0 hc
  have hie : ie.size = 1 := by rw [ge.size]; exact hts
  have hX0 : ∀ {ρ1 : Nat → Place} {I1 : Nat → Nat → Prop} {w1 : World}, ExtK [] ρ I w ρ1 I1 w1 → Ext noPl I w noPl I1 w1 := fun X => ⟨fun _ h => absurd rfl h, X.im, X.ce⟩
  -- a new block
  have fresh : ∀ (olds : List Value) (old : Nat), olds.length = n → (∀ i, i < n → ∃ c, olds[i]? = some c ∧ c.oneCell' = true ∧ Rep1 T I w noPl (f i 0) c) → ∃ ρ' I' e', 
      (∀ S : List Nat, (∀ k, k ∈ S → k ≠ id) → ExtK S ρ I w ρ' I' (w.drew.alloc (.cells (olds.toArray ++ (newsL w b o (k * te.size)).toArray ++ Builtin.zeroCells ze.cells (grownCap w (n + k) old e - (n + k))) e))) ∧ MRel T B w0 I0 ρ' I' (m' e') (w.drew.alloc (.cells (olds.toArray ++ (newsL w b o (k * te.size)).toArray ++ Builtin.zeroCells ze.cells (grownCap w (n + k) old e - (n + k))) e)) ∧
      Rep T I' (w.drew.alloc (.cells (olds.toArray ++ (newsL w b o (k * te.size)).toArray ++ Builtin.zeroCells ze.cells (grownCap w (n + k) old e - (n + k))) e)) ρ' (.qs id (n + k) (appF n f g)) (.slice (some ⟨w.heap.size, 0, none⟩) (n + k) (grownCap w (n + k) old e)) := by
    intro olds old hol holdc
    have hge := grownCap_ge w (n + k) old e
    have hle := grownCap_le_maxLen w (n + k) old e (by unfold maxLen; omega)
    obtain ⟨g1, g2, g3⟩ := grown_cells (ts := te.size) (n := n) (k := k) (cap := grownCap w (n + k) old e) (olds := olds) (news := newsL w b o (k * te.size)) (zs := Builtin.zeroCells ze.cells (grownCap w (n + k) old e - (n + k)))
      (by rw [hol, hts, Nat.mul_one]) f1 (by rw [size_zeroCells, ge.zsize]) hge
    generalize hA : olds.toArray ++ (newsL w b o (k * te.size)).toArray ++ Builtin.zeroCells ze.cells (grownCap w (n + k) old e - (n + k)) = A at g1 g2 g3 ⊢
    have hcell : ∀ i, i < n + k → ∃ c, A[i]? = some c ∧ c.oneCell' = true ∧ Rep1 T I w noPl (appF n f g i 0) c := fun i hi => by
      by_cases h : i < n
      · have hb' : Nat.blt i n = true := by simpa using h
        simp only [appF, hb']
        obtain ⟨c, c1, c2, c3⟩ := holdc i h
        have := g2 i 0 h hts0
        rw [hts, Nat.mul_one, Nat.add_zero] at this
        exact ⟨c, by rw [this]; exact c1, c2, c3⟩
      · have hb' : Nat.blt i n = false := by
          cases hb : Nat.blt i n
          · rfl
          · exact absurd (by simpa using hb) h
        simp only [appF, hb']
        obtain ⟨c, c1, c2, c3⟩ := f4 (i - n) 0 (by omega) hts0
        have := g3 i 0 (by omega) hi hts0
        rw [hts, Nat.mul_one, Nat.add_zero, Nat.mul_one, Nat.add_zero] at this
        rw [hts, Nat.mul_one, Nat.add_zero, Nat.mul_one] at c1
        rw [Nat.mul_one] at this
        exact ⟨c, by rw [this]; exact c1, c2, c3⟩
    have hAh : (w.drew.alloc (.cells A e)).heap[w.heap.size]? = some (.cells A e (0, 0)) := heap_alloc_new w.drew _
    obtain ⟨XS, M'⟩ := M.reRow (m' := m' (n + k)) (g := w.heap.size) (cap := grownCap w (n + k) old e) (en := n + k) (arr := A) (w' := w.drew.alloc (.cells A e)) hm rfl hbx (hm' _) (hid _) rfl rfl rfl (by simp) (fun b _ hb => heap_alloc_old w.drew _ hb)
      M.hB hAh hge hle (by rw [g1, hts, Nat.mul_one]) (fun j hj => by
        obtain ⟨c, c1, c2, _⟩ := hcell j hj
        exact ⟨c, c1, c2⟩) (.inl (Nat.le_refl _))
    refine ⟨_, _, n + k, XS, M', ?_⟩
    simp only [Rep, Rep2, Rep1]
    refine .inl ⟨w.heap.size, grownCap w (n + k) old e, n + k, upd_self _ _ _, Nat.le_refl _, hge, hle, 0, by congr 1; omega, fun _ => by omega, fun i hi => ?_⟩
    obtain ⟨c, c1, c2, c3⟩ := hcell i hi
    refine ⟨.inr ⟨rfl, by omega⟩, c, ?_, c2, Rep1.mono (hX0 (XS [] (fun _ h => by cases h))) _ _ c3⟩
    rw [show n + k - (n + k) + i = i by omega, cell_of hAh]
    exact c1
  simp only [Rep, Rep2, Rep1] at hrep
  rcases hrep with ⟨g0, cap, en', hp, n1, n2, n3, x, rfl, hxe, hz⟩ | ⟨sz, hp, rfl, rfl⟩
  · have hrow := M.rows id _ hm
    rw [hp] at hrow
    obtain ⟨_, e2, e3, _, _, ⟨arr, ha, hs, hcells⟩, _, e7⟩ := hrow
    have e2 : en' = en := e2
    subst e2
    have ha : w.heap[g0]? = some (.cells arr e (0, 0)) := ha
    rw [Nat.mul_one] at hs
    by_cases hroom : n + k ≤ cap + n - en'
    · have hx0 : x = en' - n := hxe (by omega)
      have hxn : x + n = en' := by omega
      have hnl : (newsL w b o (k * te.size)).length = k := by rw [f1, hts, Nat.mul_one]
      have hrun := run_append_roomX (P := P) w t ty e ie hu ge.info hie g0 x n (cap + n - en') arr ha ⟨b, o, none⟩ k xc (newsL w b o (k * te.size)) hnl f2 f3 hroom (by rw [hnl]; omega)
      rw [hxn, hnl] at hrun
      generalize hA : (arr.toList.take en' ++ newsL w b o (k * te.size) ++ arr.toList.drop (en' + k)).toArray = A at hrun
      have hAs : A.size = arr.size := by
        rw [← hA]
        simp only [List.size_toArray, List.length_append, List.length_take, List.length_drop, Array.length_toList, hnl]
        omega
      have hApre : ∀ j, j < en' → A[j]? = arr[j]? := fun j hj => by
        rw [← hA, List.getElem?_toArray, List.append_assoc, List.getElem?_append_left (by rw [List.length_take, Array.length_toList]; omega), List.getElem?_take_of_lt hj, Array.getElem?_toList]
      have hAnew : ∀ j, j < k → ∃ c, A[en' + j]? = some c ∧ c.oneCell' = true ∧ Rep1 T I w noPl (g j 0) c := fun j hj => by
        obtain ⟨c, c1, c2, c3⟩ := f4 j 0 hj hts0
        rw [hts, Nat.mul_one, Nat.add_zero, Nat.mul_one] at c1
        refine ⟨c, ?_, c2, c3⟩
        have h7 : (List.take en' arr.toList).length = en' := by rw [List.length_take, Array.length_toList, Nat.min_eq_left (by omega)]
        have hnl' := hnl
        rw [hts, Nat.mul_one] at hnl'
        rw [← hA, hts, Nat.mul_one, List.getElem?_toArray, List.append_assoc, List.getElem?_append_right (by rw [h7]; omega), h7, List.getElem?_append_left (by rw [hnl']; omega), ← c1]
        congr 1; omega
      have hgA : (w.setRow g0 A).heap[g0]? = some (.cells A e (0, 0)) := setRow_heap w g0 arr _ e _ ha
      obtain ⟨XS, M'⟩ := M.reRow (m' := m' (en' + k)) (g := g0) (cap := cap) (en := en' + k) (arr := A) (w' := w.setRow g0 A) hm rfl hbx (hm' _) (hid _) rfl rfl rfl (by simp) (fun b hb _ => setRow_other w g0 b _ hb)
        e3 hgA (by omega) n3 (by rw [hAs, hs]) (fun j hj => by
          by_cases h : j < en'
          · obtain ⟨c, c1, c2, _⟩ := hcells j 0 h (by omega)
            rw [Nat.mul_one, Nat.add_zero] at c1
            exact ⟨c, by rw [hApre j h]; exact c1, c2⟩
          · obtain ⟨c, c1, c2, _⟩ := hAnew (j - en') (by omega)
            exact ⟨c, by rw [← c1]; congr 1; omega, c2⟩) (.inr ⟨cap, en', arr, hp, by omega, ha, hAs, hApre⟩)
      refine ⟨_, _, _, _, en' + k, hrun, XS, M', ?_⟩
      have hE := hX0 (XS [] (fun _ h => by cases h))
      simp only [Rep, Rep2, Rep1]
      refine .inl ⟨g0, cap, en' + k, upd_self _ _ _, by omega, by omega, n3, x, by congr 1; omega, fun _ => by omega, fun i hi => ⟨.inr ⟨rfl, by omega⟩, ?_⟩⟩
      by_cases h : i < n
      · have hb' : Nat.blt i n = true := by simpa using h
        simp only [appF, hb']
        obtain ⟨hI, c, c1, c2, c3⟩ := hz i h
        refine ⟨c, ?_, c2, Rep1.mono hE _ _ c3⟩
        rw [cell_of ha] at c1
        rw [cell_of hgA, show en' + k - (n + k) + i = en' - n + i by omega, hApre _ (by omega)]
        exact c1
      · have hb' : Nat.blt i n = false := by
          cases hb : Nat.blt i n
          · rfl
          · exact absurd (by simpa using hb) h
        simp only [appF, hb']
        obtain ⟨c, c1, c2, c3⟩ := hAnew (i - n) (by omega)
        refine ⟨c, ?_, c2, Rep1.mono hE _ _ c3⟩
        rw [cell_of hgA, ← c1]
        congr 1; omega
    · have holdc : ∀ i j, i < n → j < te.size → ∃ c, w.cell? ⟨g0, x + (i * te.size + j), none⟩ = some c ∧ c.oneCell' = true ∧ Rep1 T I w noPl (f i j) c := fun i j hi hj => by
        have hj0 : j = 0 := by omega
        subst hj0
        obtain ⟨_, c, c1, c2, c3⟩ := hz i hi
        have hx0 : x = en' - n := hxe (by omega)
        exact ⟨c, by rw [hts, Nat.mul_one, Nat.add_zero, hx0]; exact c1, c2, c3⟩
      obtain ⟨o1, o2, _, o4⟩ := newsL_facts hts0 holdc
      have hrun := run_append_grow (P := P) w t ty e ie ze hu ge.info ge.zero ⟨g0, x, none⟩ n (cap + n - en') (newsL w g0 x (n * te.size)) (by rw [ge.size]; exact o1) o2 ⟨b, o, none⟩ k xc (newsL w b o (k * te.size)) (by rw [ge.size]; exact f1) f2
        (by omega) (by omega) (growslice_fits (by omega) (by rw [ge.bytes]; exact hb))
      obtain ⟨ρ', I', e', q1, q2, q3⟩ := fresh (newsL w g0 x (n * te.size)) (cap + n - en') (by rw [o1, hts, Nat.mul_one]) (fun i hi => by
        obtain ⟨c, c1, c2, c3⟩ := o4 i 0 hi hts0
        rw [show i * te.size + 0 = i by rw [hts]; omega] at c1
        exact ⟨c, c1, c2, c3⟩)
      exact ⟨_, _, ρ', I', e', hrun, q1, q2, q3⟩
  · have hrun := run_append_nil (P := P) w t ty e ie ze hu ge.info ge.zero ⟨b, o, none⟩ k xc (newsL w b o (k * te.size)) (by rw [ge.size]; exact f1) f2 hkp (by omega) (by rw [ge.bytes]; rw [Nat.zero_add] at hb; omega)
    obtain ⟨ρ', I', e', q1, q2, q3⟩ := fresh [] 0 rfl (fun i hi => absurd hi (by omega))
    simp only [Nat.zero_add, Array.empty_append] at q1 q2 q3 ⊢
    exact ⟨_, _, ρ', I', e', hrun, q1, q2, q3⟩

theorem bxN_at {id : Nat} : ∀ {rv : List (Nat × Row)}, bxN id rv → ∀ k r, lookR rv k = some r → r.bx = true → ∀ i j, i < r.n → j < r.sz → tOK (r.f i j) = true ∧ (tId (r.f i j)).any (Nat.beq id) = false
  | [], _, _, _, h, _ => by cases h
  | (k0, ⟨e, sz, n, f, st, true⟩) :: rv, h, k, r, hl, hb => by
    simp only [lookR] at hl
    simp only [bxN] at h
    cases hq : Nat.beq k0 k with
    | true => rw [hq] at hl; injection hl with hl; subst hl; exact h.1
    | false => rw [hq] at hl; exact bxN_at h.2 k r hl hb
  | (k0, ⟨e, sz, n, f, st, false⟩) :: rv, h, k, r, hl, hb => by
    simp only [lookR] at hl
    simp only [bxN] at h
    cases hq : Nat.beq k0 k with
    | true => rw [hq] at hl; injection hl with hl; subst hl; cases hb
    | false => rw [hq] at hl; exact bxN_at h k r hl hb

/-- Such an append is the model's. -/
theorem eatT_sound (h : TabOK P E) {tys : List TypeId} {d : Nat} {S : List Nat} {rv : List (Nat × Row)} {args : List AV} {K : AV → (Nat → Option Row) → Prop} (hg : eatT E tys d S rv args K)
    (M : MRel E.errT B w0 I0 ρ I (lookR rv) w) {vs : Array Value} (hc : Rep2L E.errT I w ρ args vs.toList) (ty : TypeId) :
    ∃ x v m' w', (Builtin.append_ tys.toArray ty vs).run P w = .ok x w' ∧ K v m' ∧ ∃ ρ' I', ExtK S ρ I w ρ' I' w' ∧ MRel E.errT B w0 I0 ρ' I' m' w' ∧ Rep E.errT I' w' ρ' v x := by
  unfold eatT at hg
  split at hg
  · rename_i t t' id n x
    split at hg
    · rename_i e _ _ _ htt ht
      have htt' := Nat.eq_of_beq_eq_true htt
      subst htt'
      have hu := tab_slice h ht
      split at hg
      · rename_i desc ts tb z he
        obtain ⟨ie, ze, ge⟩ := h.gives he
        split at hg
        · rename_i k g re sz rn f hts hnews hm
          split at hg
          · rename_i c1 c2 c3 c4 c5
            obtain ⟨⟨hb, hk⟩, hbx, hK⟩ := hg
            obtain ⟨sv, xv, hvs, r1, r2⟩ : ∃ sv xv, vs.toList = [sv, xv] ∧ Rep2 E.errT I w ρ (.own id n) sv ∧ Rep2 E.errT I w ρ x xv := by
              match hl : vs.toList, hc with
              | [a, b], ⟨h1, h2, _⟩ => exact ⟨a, b, rfl, h1, h2⟩
            have hvs' : vs = #[sv, xv] := by apply Array.ext'; simpa using hvs
            subst hvs'
            have hne : d ≠ id := fun e => by subst e; simp at c5
            have e1 := Nat.eq_of_beq_eq_true c1
            have e2 := Nat.eq_of_beq_eq_true c2
            obtain ⟨v, w', ρ', hrun, hX, hM, hR⟩ := eat_sound (ty := ty) M c4 hne hu ge (by simpa using hts) hnews (Rep.of2 r2) hm e1 e2 rfl rfl (Rep.of2 r1) hb hk (fun k r _ hr => bxN_at hbx k r hr)
            exact ⟨v, _, _, w', hrun, hK, ρ', I, hX S (any_beq c3), hM, hR⟩
          · exact hg.elim
        · exact hg.elim
      · exact hg.elim
    · exact hg.elim
  · rename_i t t' id n f x
    obtain ⟨⟨e, s, b, zs, ds, tb, z, k, g, en, fr, rv', rfl, ht, he, hnews, hkp, hm, hS, hbx, ⟨hb, hk⟩, hrv, hrid, hK⟩⟩ := hg
    obtain ⟨ie, ze, ge⟩ := h.gives he
    obtain ⟨sv, xv, hvs, r1, r2⟩ : ∃ sv xv, vs.toList = [sv, xv] ∧ Rep2 E.errT I w ρ (.qs id n f) sv ∧ Rep2 E.errT I w ρ x xv := by
      match hl : vs.toList, hc with
      | [a, b], ⟨h1, h2, _⟩ => exact ⟨a, b, rfl, h1, h2⟩
    have hvs' : vs = #[sv, xv] := by apply Array.ext'; simpa using hvs
    subst hvs'
    obtain ⟨v, w', ρ', I', e', hrun, hX, hM, hR⟩ := qapp_sound (ty := ty) M (tab_slice h ht) ge rfl hnews hkp (Rep.of2 r2) hm (Rep.of2 r1) hb hk (fun k r _ hr => bxN_at hbx k r hr) (fun e' => lookR (rv' e')) (fun e' k hk => hrv e' k hk) hrid
    exact ⟨v, _, _, w', hrun, hK e', ρ', I', hX S hS, hM, hR⟩
  · exact hg.elim
end Go.Proofs.Ytbhbjmneglkgnaa.AI
