/- HL, part R: a law's row, from its function's contract. -/
import Derived.Test.YtdbbbhjajkobaabHLQ
import Derived.JoinedOf
set_option linter.unusedVariables false
set_option linter.unusedSimpArgs false
namespace Go.HL
open Go.RowKit Go.ChangeShapes Go.WideShapes
variable {P : Program}

theorem Cod.zero {t : TypeId} {α : Type} {en : α → List D} {good : α → Prop} : Cod P 0 t en good := by
  intro H ec W fuel cs x hf h
  obtain rfl : fuel = 0 := by omega
  simp [DataW.trod] at h
theorem Cod.sliceN {t e : TypeId} {k : Nat} {α : Type} {en : α → List D} {good : α → Prop} (ht : P.underlying t = some (.slice e)) (hk : P.cellsOf e = k) (h0 : 0 < k) (hen : ∀ a, (en a).length = k) (he : ∀ n, Cod P n e en good) (n : Nat) :
    Cod P n t (fun l : List α => [D.list (l.map en) .ro]) (fun l => l.length ≤ maxLen ∧ ∀ a ∈ l, good a) := by
  cases n with
  | zero => exact Cod.zero
  | succ n => exact Cod.slice ht hk h0 hen (he n)
theorem Cod.structN {t : TypeId} {fs : Array Field} (ht : P.underlying t = some (.struct fs)) {l : List (TypeId × Nat × Nat)} (hl : fs.toList.map (fun f => (f.type, f.offset, P.cellsOf f.type)) = l) {α : Type} {en : α → List D} {good : α → Prop} (h : ∀ n, Flds P n l 0 α en good) (hc : P.cellsOf t = (l.map (·.2.2)).sum) (n : Nat) : Cod P n t en good := by
  cases n with
  | zero => exact Cod.zero
  | succ n => exact Cod.struct ht hl (h n) hc

theorem Cod.mapG {n : Nat} {t : TypeId} {α β : Type} {en : α → List D} {good : α → Prop} {en' : β → List D} {good' : β → Prop} (h : Cod P n t en good) (g : α → β) (he : ∀ a, good a → en' (g a) = en a) (hg : ∀ a, good a → good' (g a)) : Cod P n t en' good' := by
  intro H ec W fuel cs x hf hx
  obtain ⟨a, ga, ha⟩ := h H ec W fuel cs x hf hx
  exact ⟨g a, hg a ga, by rw [he a ga]; exact ha⟩
/-- What a parameter is handed reads as one of these. -/
def HasArg (P : Program) (t : TypeId) {α : Type} (ar : α → D) (good : α → Prop) : Prop :=
  ∀ (H : Type) (ec : TypeId × Value → H) (W : World) (base : Nat) (v : Value) (d : DataW H) (p : List MemPlace), Value.okWide P W .any base t v → DataW.Trod ec P W 0 (fun _ => true) true t v d p → ∃ a, good a ∧ Den (memOf W) v (ar a)
theorem HasArg.one {t : TypeId} {α : Type} {ar : α → D} {good : α → Prop} (h1 : ∀ (W : World) (base : Nat) (v : Value), Value.okWide P W .any base t v → v.oneCell' = true) (h : ∀ n, Cod P n t (fun a => [ar a]) good) : HasArg P t ar good := by
  rintro H ec W base v d p hv ⟨fuel, ht⟩
  rw [cells_one (h1 W base v hv)] at ht
  obtain ⟨a, ga, ha⟩ := h fuel H ec W fuel _ _ (Nat.le_refl _) ht
  exact ⟨a, ga, ha.den 0 v (ar a) rfl rfl⟩
theorem HasArg.slice {t e : TypeId} {k : Nat} {α : Type} {en : α → List D} {good : α → Prop} (ht : P.underlying t = some (.slice e)) (hk : P.cellsOf e = k) (h0 : 0 < k) (hen : ∀ a, (en a).length = k) (he : ∀ n, Cod P n e en good) :
    HasArg P t (fun l : List α => D.list (l.map en) .ro) (fun l => l.length ≤ maxLen ∧ ∀ a ∈ l, good a) :=
  HasArg.one (fun W base v hv => by obtain ⟨a, n, c, rfl⟩ := okWide_slice ht hv; rfl) (Cod.sliceN ht hk h0 hen he)
theorem HasArg.int {t : TypeId} {k : IntKind} (ht : P.underlying t = some (.int k)) : HasArg P t (fun i : Int => D.int k i) (fun i => (Lit.int k i).wf = true) :=
  HasArg.one (fun W base v hv => by obtain ⟨n, rfl⟩ := okWide_int ht hv; rfl) (fun n => Cod.int ht)
theorem HasArg.str {t : TypeId} (ht : P.underlying t = some .string) : HasArg P t (fun s : ByteArray => D.str s) (fun s => s.size ≤ maxLen) :=
  HasArg.one (fun W base v hv => by obtain ⟨n, rfl⟩ := okWide_string ht hv; rfl) (fun n => Cod.str ht)
theorem HasArg.bool {t : TypeId} (ht : P.underlying t = some .bool) : HasArg P t (fun s : Bool => D.bool s) (fun _ => True) :=
  HasArg.one (fun W base v hv => by obtain ⟨n, rfl⟩ := okWide_bool ht hv; rfl) (fun n => Cod.bool ht)
theorem HasArg.struct {t : TypeId} {fs : Array Field} {α : Type} {en : α → List D} {good : α → Prop} (ht : P.underlying t = some (.struct fs)) (h : ∀ n, Cod P n t en good) : HasArg P t (fun a => D.agg (en a)) good := by
  rintro H ec W base v d p hv ⟨fuel, htr⟩
  obtain ⟨cs, rfl, -⟩ := okWide_struct ht hv
  obtain ⟨a, ga, ha⟩ := h fuel H ec W fuel _ _ (Nat.le_refl _) htr
  have hl := ha.len
  simp only [Value.cells] at hl ha
  refine ⟨a, ga, .agg cs _ (by simpa using hl) (fun i hi => ?_) (fun i d hd => ?_)⟩
  · have := ha.one cs[i] (by simp)
    simpa [Array.getD, hi] using this
  · have hi : i < cs.size := by have := (List.getElem?_eq_some_iff.1 hd).1; rw [← hl] at this; simpa using this
    have := ha.den i cs[i] d (by simp [hi]) hd
    simpa [Array.getD, hi] using this

/-- All parameters. -/
inductive Args (P : Program) : List TypeId → (α : Type) → (α → List D) → (α → Prop) → Prop
  | nil : Args P [] Unit (fun _ => []) (fun _ => True)
  | cons {t : TypeId} {ts : List TypeId} {α β : Type} {ar : α → D} {good : α → Prop} {en : β → List D} {goodR : β → Prop} (h : HasArg P t ar good) (r : Args P ts β en goodR) : Args P (t :: ts) (α × β) (fun p => ar p.1 :: en p.2) (fun p => good p.1 ∧ goodR p.2)
theorem Args.told {ts : List TypeId} {α : Type} {en : α → List D} {good : α → Prop} (h : Args P ts α en good) {H : Type} {ec : TypeId × Value → H} {W : World} {base : Nat} : ∀ (vs : List Value) (ds : List (DataW H)) (ps : List MemPlace),
    (∀ (j : Nat) t v, ts[j]? = some t → vs[j]? = some v → Value.okWide P W .any base t v) → DataW.TrodAll ec P W 0 (fun _ => true) true ts vs ds ps →
    ∃ a, good a ∧ vs.length = (en a).length ∧ ds.length = ts.length ∧ ∀ (i : Nat) (v : Value) (d : D), vs[i]? = some v → (en a)[i]? = some d → Den (memOf W) v d := by
  induction h with
  | nil =>
    intro vs ds ps _ h
    obtain ⟨rfl, rfl, rfl⟩ := trodAll_nil h
    exact ⟨(), trivial, rfl, rfl, fun i v d hv => by simp at hv⟩
  | @cons t ts α β ar good en goodR h r ih =>
    intro vs ds ps hok htr
    obtain ⟨v, vs', d, ds', p, q, rfl, rfl, rfl, h1, h2⟩ := trodAll_cons htr
    obtain ⟨a, ga, ha⟩ := h H ec W base v d p (hok 0 t v rfl rfl) h1
    obtain ⟨b, gb, hl, hl2, hb⟩ := ih vs' ds' q (fun j t v h1 h2 => hok (j + 1) t v (by simpa using h1) (by simpa using h2)) h2
    refine ⟨(a, b), ⟨ga, gb⟩, by simp [hl], by simp [hl2], fun i u x hu hx => ?_⟩
    cases i with
    | zero => simp at hu hx; subst hu hx; exact ha
    | succ i => exact hb i u x (by simpa using hu) (by simpa using hx)

theorem row_lifted {C : Checked} {os : Os} {f : FuncId} {fn : Func} {s : ChangeSpec} {conds : List PathCond} {fresh handsOn again : Bool} {H : Type} {enc : TypeId × Value → H}
    (own : ownKnob C.prog.godebug = none) (started : os.Started) (noInit : C.prog.inits.idxOf? f = none) (hfn : C.prog.funcs[f]? = some fn)
    (witness : ∃ (w : World) (tape : Tape) (i : Input), w.os = os ∧ (w.forCall tape i).Shaped C.prog ∧ i.vars = [] ∧ Input.okWide C.prog (w.forCall tape i) .any w.heap.size f i ∧
      s.pre6 enc C.prog fn conds false (w.forCall tape i).memory i.args ∧ ({} : Assume).holds C.prog (lone (Frame.enter C.prog f i.args .normal) [] (w.forCall tape i)))
    (hl : laidOutB C.prog = true) {rt : TypeId} (hvars : s.vars = []) (hres : fn.resultTypes = #[rt]) (hrt : C.prog.underlying rt = some .bool) (hread : ∀ t ∈ fn.params.toList, C.prog.readableRec t = true ∧ t < C.prog.types.size)
    (hsp : ∀ ds : List (DataW H), ds.length = fn.params.toList.length → s.fn H ds = { results := [.lit (.bool true)], args := ds })
    {α : Type} {en : α → List D} {good : α → Prop} (hA : Args C.prog fn.params.toList α en good) (hc : ∀ a, good a → Ret C.prog f (en a) (.bool true)) :
    ReturnsInHanded {} C os f .any (s.pre6 enc C.prog fn conds false) (s.post enc C.prog fn false fresh handsOn again) := by
  refine returnsInHanded_of_change own started noInit hfn witness ?_
  intro W base args ds gs before hval hW hcnd _
  have hW' := hW
  obtain ⟨p, q, hTA, hV, rfl, hfz, hnd⟩ := hW'
  obtain ⟨a, ga, hlen, hdl, hden⟩ := hA.told args.toList ds p (fun j t v h1 h2 => hval j t v (by simpa using h1) (by simpa using h2)) hTA
  rw [hvars] at hV
  obtain ⟨rfl, rfl⟩ := trodVars_none hV
  refine row_calls hl hvars hres hrt hread hW (xs := en a) (by simpa using hsp ds hdl) (by simpa using hlen) (fun i d hd => ?_) ((hc a ga) _ _ rfl)
  have hi : i < args.size := by have := (List.getElem?_eq_some_iff.1 hd).1; simp at hlen; omega
  have := hden i args[i] d (by simp [hi]) hd
  simpa [Array.getD, hi] using this
end Go.HL
