/- From the evaluator's word on a law to the row's contract. Conditions: none. -/
import Derived.Test.YtbhbjmneglkgnaaAiRead
import Derived.ChangeSame
import Derived.WideKeyArgs
namespace Go.Proofs.Ytbhbjmneglkgnaa.AI
open Go Go.RowKit Go.WideShapes Go.ChangeShapes

variable {P : Program} {E : Env} {W W' : World} {I : Nat → Nat → Prop} {H : Type} {enc : TypeId × Value → H}

def argAV (E : Env) (t : TypeId) (l : List AV) : AV := match E.tab t with
  | some td => match td.desc.agg with
    | true => .agg l
    | false => nth l 0
  | none => .bad

/-- The values of a law's parameters, as the evaluator has them. -/
def ArgAll (E : Env) (d : Nat) : List TypeId → List AV → Prop
  | [], [] => True
  | t :: ts, a :: as => (∃ l, Arg E d t l ∧ a = argAV E t l) ∧ ArgAll E d ts as
  | _, _ => False

theorem arg_sound (h : TabOK P E) {d : Nat} {t : TypeId} (hb : argB E d t = true) (hI : ∀ b k, b < W.heap.size → I b k) {r : Reach} {b0 : Nat} {v : Value} (hv : Value.okWide P W r b0 t v)
    {base : Nat} {spare : Nat → Bool} {held : Bool} {x : DataW H} {ps : List MemPlace} (hd : DataW.Trod enc P W base spare held t v x ps) :
    ∃ l, Arg E d t l ∧ Rep2 E.errT I W noPl (argAV E t l) v := by
  obtain ⟨n, hn⟩ := hd
  obtain ⟨l, h1, h2⟩ := read_sound h hI d t hb n _ _ hn
  refine ⟨l, h1, ?_⟩
  obtain ⟨⟨ds, size, bytes, z⟩, ht⟩ := argB_some hb
  obtain ⟨i, zv, g⟩ := h.gives ht
  have one : ∀ {u : Value}, u.cells = #[u] → v = u → ds.agg = false → Rep2 E.errT I W noPl (argAV E t l) v := by
    intro u hu hvu hag
    subst hvu
    rw [hu] at h2
    simp only [argAV, ht, hag]
    cases l with
    | nil => simp [RepL] at h2
    | cons a r =>
      simp only [RepL] at h2
      simp only [nth]
      exact Rep2.of1 h2.1.2
  have many : ∀ {cs : Array Value}, v = .agg cs → ds.agg = true → Rep2 E.errT I W noPl (argAV E t l) v := by
    intro cs hvu hag
    subst hvu
    simp only [argAV, ht, hag, Rep2]
    exact ⟨cs, rfl, h2⟩
  have hb2 := hb
  cases d with
  | zero => cases hb
  | succ d =>
    simp only [argB, ht] at hb
    cases ds with
    | prim => simp at hb
    | ptr => simp at hb
    | iface => simp at hb
    | int k => obtain ⟨n, rfl⟩ := okWide_int (g.int rfl) hv; exact one rfl rfl rfl
    | bool => obtain ⟨n, rfl⟩ := okWide_bool (g.bool rfl) hv; exact one rfl rfl rfl
    | slice e => obtain ⟨a, len, cap, rfl⟩ := okWide_slice (g.slice rfl) hv; exact one rfl rfl rfl
    | struct fs =>
      obtain ⟨fields, hu, _⟩ := g.struct rfl
      obtain ⟨cs, rfl, _⟩ := okWide_struct hu hv
      exact many rfl rfl
    | array n e =>
      simp only [Value.okWide, g.array rfl] at hv
      obtain ⟨cs, rfl, _⟩ := hv
      exact many rfl rfl

theorem args_sound (h : TabOK P E) {d : Nat} (hI : ∀ b k, b < W.heap.size → I b k) {r : Reach} {b0 : Nat} {base : Nat} {spare : Nat → Bool} {held : Bool} :
    ∀ (ts : List TypeId) (vs : List Value) (ds : List (DataW H)) (ps : List MemPlace), ts.all (argB E d) = true → (∀ (j : Nat) t v, ts[j]? = some t → vs[j]? = some v → Value.okWide P W r b0 t v) →
    DataW.TrodAll enc P W base spare held ts vs ds ps → ∃ avs, ArgAll E d ts avs ∧ Rep2L E.errT I W noPl avs vs
  | [], [], [], _, _, _, _ => ⟨[], trivial, trivial⟩
  | t :: ts, v :: vs, x :: ds, _, hb, hv, ⟨p, q, h1, h2, _⟩ => by
    simp only [List.all_cons, Bool.and_eq_true] at hb
    obtain ⟨l, h3, h4⟩ := arg_sound h hb.1 hI (hv 0 t v rfl rfl) h1
    obtain ⟨avs, h5, h6⟩ := args_sound h hI ts vs ds q hb.2 (fun j t v ht hv' => hv (j + 1) t v ht hv') h2
    exact ⟨argAV E t l :: avs, ⟨⟨l, h3, rfl⟩, h5⟩, h4, h6⟩

theorem trodAll_stays (hl : laidOutB P = true) {sp : Nat → Bool} (hb : Below W.heap.size W W') :
    ∀ (ts : List TypeId) (vs : List Value) (ds : List (DataW H)) (ps : List MemPlace), ts.all (fun t => P.readableRec t && decide (t < P.types.size)) = true → (∀ p ∈ ps, p.block < W.heap.size) → (∀ p ∈ ps, sp p.block = true) →
    DataW.TrodAll enc P W 0 (fun _ => true) true ts vs ds ps → DataW.TrodAll enc P W' 0 sp true ts vs ds ps
  | [], [], [], _, _, _, _, h => h
  | t :: ts, v :: vs, x :: ds, _, hr, hlt, hsp, ⟨p, q, h1, h2, e⟩ => by
    simp only [List.all_cons, Bool.and_eq_true, decide_eq_true_eq] at hr
    subst e
    exact ⟨p, q, WideElems.Trod_stays hl hr.1.1 hr.1.2 h1 (fun y hy => hb.same (hlt y (by simp [hy]))) (fun y hy => hsp y (by simp [hy])),
      trodAll_stays hl hb ts vs ds q hr.2 (fun y hy => hlt y (by simp [hy])) (fun y hy => hsp y (by simp [hy])) h2, rfl⟩

theorem trodAll_len {P : Program} {w : World} {base : Nat} {spare : Nat → Bool} {held : Bool} : ∀ (ts : List TypeId) (vs : List Value) (ds : List (DataW H)) (ps : List MemPlace),
    DataW.TrodAll enc P w base spare held ts vs ds ps → ds.length = ts.length
  | [], [], [], _, _ => rfl
  | _ :: ts, _ :: vs, _ :: ds, _, ⟨_, q, _, h2, _⟩ => by simp [trodAll_len ts vs ds q h2]

/-- A law's contract, out of the evaluator's. 'ts': the parameters' types; 'tb': bool. -/
theorem law_contract (h : TabOK P E) {f : FuncId} {fn : Func} {s : ChangeSpec} {d : Nat} (ts : List TypeId) {tb : TypeId}
    (hprm : fn.params.toList = ts) (hres : fn.resultTypes = #[tb]) (htb : P.underlying tb = some .bool) (hvars : s.vars = [])
    (hl : laidOutB P = true) (hr : ts.all (fun t => P.readableRec t && decide (t < P.types.size)) = true) (hb : ts.all (argB E d) = true)
    (hspec : ∀ (H : Type) (ds : List (DataW H)), ds.length = ts.length → s.fn H ds = { results := [.lit (.bool true)], args := ds })
    (hlaw : ∀ avs, ArgAll E d ts avs → FnOK P E.errT f avs (.bit true))
    {base : Nat} {args : Array Value} {ds gs : List (DataW H)} {before : List MemPlace}
    (hval : ∀ (j : Nat) t v, fn.params[j]? = some t → args[j]? = some v → Value.okWide P W .any base t v)
    (hW : DataW.Whole enc P fn.params.toList s.vars false W args.toList ds gs before) :
    Calls P f args W fun e W' => ∃ v, e = .returned v ∧ s.post enc P fn false true false false W args v W' := by
  have hW0 := hW
  have hlt : ∀ p ∈ before, p.block < W.heap.size := fun p hp => hW.lt p hp
  obtain ⟨p, q, hA, hV, rfl, hfz, hnd⟩ := hW
  rw [hvars] at hV
  obtain ⟨rfl, rfl⟩ := trodVars_none hV
  rw [hprm] at hA
  have hpj : ∀ (j : Nat) t, ts[j]? = some t → fn.params[j]? = some t := by
    intro j t hj
    rw [← hprm] at hj
    simpa using hj
  obtain ⟨avs, h1, h2⟩ := args_sound (I := fun b _ => b < W.heap.size) h (fun _ _ h => h) ts args.toList ds p hb
    (fun j t v ht hv => hval j t v (hpj j t ht) (by simpa using hv)) hA
  refine (hlaw avs h1 (fun b _ => b < W.heap.size) W args (fun _ _ h => h) h2).mono fun e W' hx => ?_
  obtain ⟨x, rfl, hbel, hrep⟩ := hx
  rw [rep_bit] at hrep
  subst hrep
  have hs := hspec H ds (trodAll_len _ _ _ _ hA)
  refine ⟨.bool true, rfl, ds, [], p ++ [], [], p, [], hW0, ?_, ?_, ?_, hbel.frame _, fun h => by cases h⟩
  · rw [List.append_nil, hs, hres]
    exact ⟨[], [], ⟨1, by simp [DataW.trod, Value.cells, htb]⟩, rfl, rfl⟩
  · rw [List.append_nil, hs, hprm]
    exact trodAll_stays hl hbel ts args.toList ds p hr (fun y hy => hlt y (by simpa using hy)) (fun y hy => by simpa using hlt y (by simpa using hy)) hA
  · rw [List.append_nil, hs, hvars]
    rfl
end Go.Proofs.Ytbhbjmneglkgnaa.AI
