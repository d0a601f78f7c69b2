/- append to a row of the call's own, in whatever way the model grows it. Conditions: none. -/
import Derived.Test.YtbhbjmneglkgnaaAiApp
namespace Go.Proofs.Ytbhbjmneglkgnaa.AI
open Go Go.RowKit

variable {P : Program} {E : Env} {T : TypeId} {B : Nat} {w0 : World} {I0 : Nat → Nat → Prop} {ρ ρ' : Nat → Place} {I I' : Nat → Nat → Prop} {m : Nat → Option Row} {w w' : World}

/-- What is appended, in memory. -/
def NewsAt (T : TypeId) (I : Nat → Nat → Prop) (w : World) (ts k : Nat) (g : Nat → Nat → AV) (xa : Option Addr) : Prop :=
  0 < k → ∃ b o, xa = some ⟨b, o, none⟩ ∧ ∀ i j, i < k → j < ts → ∃ c, w.cell? ⟨b, o + (i * ts + j), none⟩ = some c ∧ c.oneCell' = true ∧ Rep1 T I w noPl (g i j) c

theorem news_of (M : MRel T B w0 I0 ρ I m w) {ts : Nat} {x : AV} {xv : Value} {k : Nat} {g : Nat → Nat → AV} (h : newsOf ts x (rowOf m x) = some (k, g)) (hx : Rep T I w ρ x xv) :
    ∃ xa xc, xv = .slice xa k xc ∧ NewsAt T I w ts k g xa := by
  unfold newsOf at h
  split at h
  · rename_i sz k' g'
    split at h
    · rename_i hs
      have hs' : sz = ts := Nat.eq_of_beq_eq_true hs
      subst hs'
      simp only [Option.some.injEq, Prod.mk.injEq] at h
      obtain ⟨rfl, rfl⟩ := h
      simp only [Rep, Rep2, Rep1] at hx
      obtain ⟨a, cap, rfl, _, _, hz⟩ := hx
      refine ⟨a, cap, rfl, fun hk => ?_⟩
      obtain ⟨b, o, ha, hc⟩ := hz hk
      exact ⟨b, o, ha, fun i j hi hj => (hc i j hi hj).2⟩
    · cases h
  · rename_i id k'
    split at h
    · rename_i e sz n f st hm
      have hm : m id = some ⟨e, sz, n, f, st, false⟩ := hm
      split at h
      · rename_i hs
        have hs' : sz = ts := Nat.eq_of_beq_eq_true hs
        subst hs'
        simp only [Option.some.injEq, Prod.mk.injEq] at h
        obtain ⟨rfl, rfl⟩ := h
        simp only [Rep, Rep2, Rep1] at hx
        rcases hx with ⟨g, cap, sz', hp, rfl⟩ | ⟨sz', hp, rfl, rfl⟩
        · obtain ⟨q1, _, _, _⟩ := M.sz hp hm
          simp only at q1
          subst q1
          refine ⟨_, _, rfl, fun hk => ⟨g, 0, rfl, fun i j hi hj => ?_⟩⟩
          obtain ⟨c, h1, h2, h3⟩ := M.cellAt hp hm hi hj
          exact ⟨c, by rw [Nat.zero_add]; exact h1, h2, h3⟩
        · exact ⟨_, _, rfl, fun hk => absurd hk (by omega)⟩
      · cases h
    · cases h
  · cases h

def newsL (w : World) (b o q : Nat) : List Value := (List.range q).map fun j => (w.cell? ⟨b, o + j, none⟩).getD undef

theorem newsL_facts {ts k b o : Nat} {g : Nat → Nat → AV} (hts : 0 < ts) (hc : ∀ i j, i < k → j < ts → ∃ c, w.cell? ⟨b, o + (i * ts + j), none⟩ = some c ∧ c.oneCell' = true ∧ Rep1 T I w noPl (g i j) c) :
    (newsL w b o (k * ts)).length = k * ts ∧ (∀ j u, (newsL w b o (k * ts))[j]? = some u → w.cell? ((⟨b, o, none⟩ : Addr).add j) = some u) ∧ (∀ u ∈ newsL w b o (k * ts), u.oneCell' = true) ∧
    ∀ i j, i < k → j < ts → ∃ c, (newsL w b o (k * ts))[i * ts + j]? = some c ∧ c.oneCell' = true ∧ Rep1 T I w noPl (g i j) c := by
  have hq : ∀ q, q < k * ts → ∃ c, w.cell? ⟨b, o + q, none⟩ = some c ∧ c.oneCell' = true := fun q hq => by
    have h1 : q / ts < k := Nat.div_lt_of_lt_mul (by rw [Nat.mul_comm]; exact hq)
    obtain ⟨c, h2, h3, _⟩ := hc (q / ts) (q % ts) h1 (Nat.mod_lt _ hts)
    rw [Nat.mul_comm, Nat.div_add_mod] at h2
    exact ⟨c, h2, h3⟩
  refine ⟨by simp [newsL], fun j u hu => ?_, fun u hu => ?_, fun i j hi hj => ?_⟩
  · by_cases hj : j < k * ts
    · obtain ⟨c, h1, _⟩ := hq j hj
      simp [newsL, List.getElem?_range hj, h1] at hu
      rw [add_at, h1, hu]
    · simp [newsL, List.getElem?_eq_none (by simp; omega : (List.range (k * ts)).length ≤ j)] at hu
  · simp only [newsL, List.mem_map, List.mem_range] at hu
    obtain ⟨q, hq', rfl⟩ := hu
    obtain ⟨c, h1, h2⟩ := hq q hq'
    rw [h1]; exact h2
  · obtain ⟨c, h1, h2, h3⟩ := hc i j hi hj
    refine ⟨c, ?_, h2, h3⟩
    simp [newsL, List.getElem?_range (row_index hi hj), h1]

theorem run_append_zero {t e : TypeId} {i : TypeInfo} {ty : TypeId} (ht : P.underlying t = some (.slice e)) (hi : P.info? e = some i) (base xa : Option Addr) (n cap xc : Nat) (hn : n ≤ cap) :
    (Builtin.append_ #[t, t] ty #[.slice base n cap, .slice xa 0 xc]).run P w = .ok (.slice base n cap) w := by
  cases base <;> cases xa <;> simp [Builtin.append_, run_underlying ht, sizeOf, typeInfo, hi, Builtin.lenOf, Builtin.firstCells, loadCells, loadCellsFrom, storeCells, hn]

/-- The grown row: its cells. -/
theorem grown_cells {ts n k cap : Nat} {olds news : List Value} {zs : Array Value} (ho : olds.length = n * ts) (hl : news.length = k * ts) (hz : zs.size = (cap - (n + k)) * ts) (hcap : n + k ≤ cap) :
    (olds.toArray ++ news.toArray ++ zs).size = cap * ts ∧ (∀ i j, i < n → j < ts → (olds.toArray ++ news.toArray ++ zs)[i * ts + j]? = olds[i * ts + j]?) ∧
    ∀ i j, n ≤ i → i < n + k → j < ts → (olds.toArray ++ news.toArray ++ zs)[i * ts + j]? = news[(i - n) * ts + j]? := by
  refine ⟨?_, fun i j hi hj => ?_, fun i j h0 hi hj => ?_⟩
  · simp [ho, hl, hz]
    rw [← Nat.add_mul, ← Nat.add_mul]
    congr 1; omega
  · have := row_index hi hj
    rw [Array.getElem?_append_left (by simp [ho, hl]; omega), Array.getElem?_append_left (by simp [ho]; omega)]
    simp
  · have h1 : i * ts + j < n * ts + k * ts := by rw [← Nat.add_mul]; exact row_index hi hj
    have h2 : n * ts ≤ i * ts := Nat.mul_le_mul_right _ h0
    rw [Array.getElem?_append_left (by simp [ho, hl]; omega), Array.getElem?_append_right (by simp [ho]; omega)]
    simp only [List.getElem?_toArray, List.size_toArray, ho]
    congr 1
    rw [Nat.sub_mul]; omega

theorem append_sound (M : MRel T B w0 I0 ρ I m w) {d : Nat} (hd : m d = none) {t e ty : TypeId} {te : TD} {ie : TypeInfo} {ze : Value} (hu : P.underlying t = some (.slice e)) (ge : TdGives P e te ie ze) (hts : 0 < te.size)
    {x : AV} {xv : Value} {k : Nat} {g : Nat → Nat → AV} (hnews : newsOf te.size x (rowOf m x) = some (k, g)) (hx : Rep T I w ρ x xv) :
    (∀ sv, sv = Value.slice none 0 0 → k * te.bytes ≤ 140737488355328 → k ≤ 9223372036854775807 →
      SemEff P (Builtin.append_ #[t, t] ty #[sv, xv]) T B w0 I0 ρ I w (effM m d (some ⟨e, te.size, k, g, 1, false⟩) fz0) (.own d k)) ∧
    (∀ id n q sv, m id = some q → q.e = e → q.sz = te.size → q.st ≤ 1 → q.bx = false → Rep T I w ρ (.own id n) sv → (n + k) * te.bytes ≤ 140737488355328 → n + k ≤ 9223372036854775807 →
      SemEff P (Builtin.append_ #[t, t] ty #[sv, xv]) T B w0 I0 ρ I w (effM m d (some ⟨e, te.size, n + k, appF n q.f g, 1, false⟩) (fzApp id)) (.own d (n + k))) := by
  obtain ⟨xa, xc, rfl, hn⟩ := news_of M hnews hx
  have hnil : ∀ (fz : Nat → Nat → Nat) (hfz : MRel T B w0 I0 ρ I (effM m d none fz) w), k * te.bytes ≤ 140737488355328 → k ≤ 9223372036854775807 →
      SemEff P (Builtin.append_ #[t, t] ty #[.slice none 0 0, .slice xa k xc]) T B w0 I0 ρ I w (effM m d (some ⟨e, te.size, k, g, 1, false⟩) fz) (.own d k) := by
    intro fz Mz hb hk
    have hdz : effM m d none fz d = none := by rw [effM_none, hd]; rfl
    rcases Nat.eq_zero_or_pos k with rfl | hkp
    · have M' := Mz.new_ (d := d) (r := ⟨e, te.size, 0, g, 1, false⟩) (p := .nil te.size) hdz ⟨rfl, rfl⟩ (fun _ _ _ _ h => by cases h)
      rw [effM_two] at M'
      refine ⟨_, w, _, _, run_append_zero hu ge.info none xa 0 0 xc (Nat.le_refl _), Ext.upd (M.dom d hd), M', ?_⟩
      simp only [Rep, Rep2, Rep1]
      exact .inr ⟨_, upd_self _ _ _, by simp⟩
    · obtain ⟨b, o, rfl, hc⟩ := hn hkp
      obtain ⟨f1, f2, f3, f4⟩ := newsL_facts hts hc
      have hrun := run_append_nil (P := P) w t ty e ie ze hu ge.info ge.zero ⟨b, o, none⟩ k xc (newsL w b o (k * te.size)) (by rw [ge.size]; exact f1) f2 hkp (by omega) (by rw [ge.bytes]; omega)
      have hge := grownCap_ge w k 0 e
      have hle := grownCap_le_maxLen w k 0 e (by unfold maxLen; omega)
      have Md := Mz.world (below_drew w) (I' := I) (fun _ _ h => h) (fun _ _ h => .inl h) (fun b j h => M.ilt b j h)
      obtain ⟨g1, g2, g3⟩ := grown_cells (ts := te.size) (n := 0) (k := k) (cap := grownCap w k 0 e) (olds := []) (news := newsL w b o (k * te.size)) (zs := Builtin.zeroCells ze.cells (grownCap w k 0 e - k))
        (by simp) f1 (by rw [size_zeroCells, ge.zsize, Nat.zero_add]) (by omega)
      simp only [Array.empty_append] at g1 g2 g3
      have X0 : Ext ρ I w ρ I w.drew := Ext.of_below M.ilt (below_drew w) fun _ _ h => h
      obtain ⟨X, M'⟩ := Md.block (d := d) hdz (arr := (newsL w b o (k * te.size)).toArray ++ Builtin.zeroCells ze.cells (grownCap w k 0 e - k)) (e := e) (cap := grownCap w k 0 e) (sz := te.size) (n := k) (f := g) (st := 1) (bx := false)
        g1 hge hle (fun i j hi hj => by
          obtain ⟨c, c1, c2, c3⟩ := f4 i j hi hj
          refine ⟨c, ?_, c2, Rep1.mono X0.none_ _ _ c3⟩
          rw [g3 i j (by omega) (by omega) hj]
          exact c1)
      rw [effM_two] at M'
      refine ⟨_, _, _, _, hrun, X0.trans X, M', ?_⟩
      simp only [Rep, Rep2, Rep1]
      exact .inl ⟨_, _, _, upd_self _ _ _, rfl⟩
  refine ⟨fun sv hsv hb hk => ?_, fun id n q sv hm hqe hqs hst hbx hrep hb hk => ?_⟩
  · subst hsv
    exact hnil fz0 (by rw [effM_fz0]; exact M) hb hk
  · simp only [Rep, Rep2, Rep1] at hrep
    rcases hrep with ⟨g0, cap, sz, hp, rfl⟩ | ⟨sz, hp, rfl, rfl⟩
    · obtain ⟨q1, q2, q3, q4⟩ := M.sz hp hm
      rw [hqs] at q1
      subst q1
      have hrow := M.rows id q hm
      rw [hp] at hrow
      obtain ⟨_, _, e3, _, _, ⟨arr, ha, hs, hcells⟩, e6, e7⟩ := hrow
      rw [hqe] at ha
      have hbxp : plOf q.bx ρ = noPl := by rw [hbx]; rfl
      by_cases hroom : n + k ≤ cap
      · -- within the room
        have hfin : ∃ arr' w', (Builtin.append_ #[t, t] ty #[.slice (some ⟨g0, 0, none⟩) n cap, .slice xa k xc]).run P w = .ok (.slice (some ⟨g0, 0, none⟩) (n + k) cap) w' ∧ arr'.size = arr.size ∧
            (∀ i, i < n * te.size → arr'[i]? = arr[i]?) ∧ w'.os = w.os ∧ w'.tape = w.tape ∧ w'.output = w.output ∧ w'.heap.size = w.heap.size ∧ (∀ b, b ≠ g0 → w'.heap[b]? = w.heap[b]?) ∧
            w'.heap[g0]? = some (.cells arr' e (0, 0)) ∧ ∀ i j, n ≤ i → i < n + k → j < te.size → ∃ c, arr'[i * te.size + j]? = some c ∧ c.oneCell' = true ∧ Rep1 T I w noPl (g (i - n) j) c := by
          rcases Nat.eq_zero_or_pos k with rfl | hkp
          · exact ⟨arr, w, run_append_zero hu ge.info _ xa n cap xc (by omega), rfl, fun _ _ => rfl, rfl, rfl, rfl, rfl, fun _ _ => rfl, ha, fun i j h1 h2 => by omega⟩
          · obtain ⟨b, o, rfl, hc⟩ := hn hkp
            obtain ⟨f1, f2, f3, f4⟩ := newsL_facts hts hc
            have hfit : n * te.size + (newsL w b o (k * te.size)).length ≤ arr.size := by
              rw [f1, hs, ← Nat.add_mul]; exact Nat.mul_le_mul_right _ hroom
            have hrun := run_append_room (P := P) w t ty e ie hu ge.info g0 n cap arr ha ⟨b, o, none⟩ k xc (newsL w b o (k * te.size)) (by rw [ge.size]; exact f1) f2 f3 hroom (by rw [ge.size]; exact hfit)
            rw [ge.size] at hrun
            have hnl : n * te.size ≤ arr.size := by omega
            refine ⟨_, _, hrun, ?_, fun i hi => ?_, rfl, rfl, rfl, by simp, fun b' hb' => setRow_other w g0 b' _ hb', setRow_heap w g0 arr _ e _ ha, fun i j h1 h2 hj => ?_⟩
            · simp only [List.size_toArray, List.length_append, List.length_take, List.length_drop, Array.length_toList]
              omega
            · rw [List.getElem?_toArray, List.append_assoc, List.getElem?_append_left (by rw [List.length_take, Array.length_toList]; omega), List.getElem?_take_of_lt hi, Array.getElem?_toList]
            · obtain ⟨c, c1, c2, c3⟩ := f4 (i - n) j (by omega) hj
              refine ⟨c, ?_, c2, c3⟩
              have h4 : n * te.size ≤ i * te.size := Nat.mul_le_mul_right _ h1
              have h5 : (i - n) * te.size + j < k * te.size := row_index (by omega) hj
              have h6 : (i - n) * te.size = i * te.size - n * te.size := Nat.sub_mul _ _ _
              have h7 : (List.take (n * te.size) arr.toList).length = n * te.size := by rw [List.length_take, Array.length_toList, Nat.min_eq_left hnl]
              rw [List.getElem?_toArray, List.append_assoc, List.getElem?_append_right (by rw [h7]; omega), h7, List.getElem?_append_left (by rw [f1]; omega), ← c1]
              congr 1; omega
        obtain ⟨arr', w', hrun, a1, a2, a3, a4, a5, a6, a7, a8, a9⟩ := hfin
        obtain ⟨X, M'⟩ := M.appendIn (w' := w') (d := d) (k := k) (arr := arr) (arr' := arr') (f := appF n q.f g) hd hm hp hst (by rw [hqe]; exact ha) a1 a2 a3 a4 a5 a6 a7 (by rw [hqe]; exact a8) hroom (fun i j hi hj => by
          by_cases h : i < n
          · have : Nat.blt i n = true := by simpa using h
            simp only [appF, this]
            obtain ⟨c, c1, c2, c3⟩ := hcells i j h hj
            rw [hbxp] at c3
            exact ⟨c, by rw [a2 _ (row_index h hj)]; exact c1, c2, c3⟩
          · have : Nat.blt i n = false := by
              cases hb : Nat.blt i n
              · rfl
              · exact absurd (by simpa using hb) h
            simp only [appF, this]
            exact a9 i j (by omega) hi hj)
        rw [hqe] at M'
        refine ⟨_, w', _, _, hrun, X, M', ?_⟩
        simp only [Rep, Rep2, Rep1]
        exact .inl ⟨_, _, _, upd_self _ _ _, rfl⟩
      · -- it grows
        have hkp : 0 < k := by omega
        obtain ⟨b, o, rfl, hc⟩ := hn hkp
        obtain ⟨f1, f2, f3, f4⟩ := newsL_facts hts hc
        have holdc : ∀ i j, i < n → j < te.size → ∃ c, w.cell? ⟨g0, 0 + (i * te.size + j), none⟩ = some c ∧ c.oneCell' = true ∧ Rep1 T I w noPl (q.f i j) c := fun i j hi hj => by
          obtain ⟨c, c1, c2, c3⟩ := hcells i j hi hj
          rw [hbxp] at c3
          exact ⟨c, by rw [Nat.zero_add, cell_of ha]; exact c1, c2, c3⟩
        obtain ⟨o1, o2, _, o4⟩ := newsL_facts hts holdc
        have hrun := run_append_grow (P := P) w t ty e ie ze hu ge.info ge.zero ⟨g0, 0, none⟩ n cap (newsL w g0 0 (n * te.size)) (by rw [ge.size]; exact o1) o2 ⟨b, o, none⟩ k xc (newsL w b o (k * te.size)) (by rw [ge.size]; exact f1) f2
          (by omega) (by omega) (growslice_fits (by omega) (by rw [ge.bytes]; exact hb))
        have hge := grownCap_ge w (n + k) cap e
        have hle := grownCap_le_maxLen w (n + k) cap e (by unfold maxLen; omega)
        have Mz := M.raise d id
        have hdz : effM m d none (fzApp id) d = none := by rw [effM_none, hd]; rfl
        have Md := Mz.world (below_drew w) (I' := I) (fun _ _ h => h) (fun _ _ h => .inl h) (fun b j h => M.ilt b j h)
        obtain ⟨g1, g2, g3⟩ := grown_cells (ts := te.size) (n := n) (k := k) (cap := grownCap w (n + k) cap e) (olds := newsL w g0 0 (n * te.size)) (news := newsL w b o (k * te.size)) (zs := Builtin.zeroCells ze.cells (grownCap w (n + k) cap e - (n + k)))
          o1 f1 (by rw [size_zeroCells, ge.zsize]) hge
        have X0 : Ext ρ I w ρ I w.drew := Ext.of_below M.ilt (below_drew w) fun _ _ h => h
        obtain ⟨X, M'⟩ := Md.block (d := d) hdz (arr := (newsL w g0 0 (n * te.size)).toArray ++ (newsL w b o (k * te.size)).toArray ++ Builtin.zeroCells ze.cells (grownCap w (n + k) cap e - (n + k))) (e := e) (cap := grownCap w (n + k) cap e)
          (sz := te.size) (n := n + k) (f := appF n q.f g) (st := 1) (bx := false) g1 hge hle (fun i j hi hj => by
          by_cases h : i < n
          · have hb' : Nat.blt i n = true := by simpa using h
            simp only [appF, hb']
            obtain ⟨c, c1, c2, c3⟩ := o4 i j h hj
            exact ⟨c, by rw [g2 i j h hj]; exact c1, c2, Rep1.mono X0.none_ _ _ c3⟩
          · have hb' : Nat.blt i n = false := by
              cases hb : Nat.blt i n
              · rfl
              · exact absurd (by simpa using hb) h
            simp only [appF, hb']
            obtain ⟨c, c1, c2, c3⟩ := f4 (i - n) j (by omega) hj
            exact ⟨c, by rw [g3 i j (by omega) hi hj]; exact c1, c2, Rep1.mono X0.none_ _ _ c3⟩)
        rw [effM_two] at M'
        refine ⟨_, _, _, _, hrun, X0.trans X, M', ?_⟩
        simp only [Rep, Rep2, Rep1]
        exact .inl ⟨_, _, _, upd_self _ _ _, rfl⟩
    · have := hnil (fzApp id) (M.raise d id) (by simpa using hb) (by omega)
      have hz : (appF 0 q.f g) = g := by
        funext i j
        have : Nat.blt i 0 = false := rfl
        simp only [appF, this, Nat.sub_zero]
      simp only [Nat.zero_add, hz]
      exact this
end Go.Proofs.Ytbhbjmneglkgnaa.AI
