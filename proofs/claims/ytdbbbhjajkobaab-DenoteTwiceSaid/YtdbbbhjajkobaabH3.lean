/- Parts of the proofs, one behind the other: HLQ HLR HLS HLT HLU HLV HLW. -/
import Derived.Test.YtdbbbhjajkobaabH2
import Derived.ProofKit
import Derived.JoinedOf
import Derived.Laws.LoneSync
/- HL, part Q: what a row's arguments read as, told plainly; and the row. -/
set_option linter.unusedVariables false
set_option linter.unusedSimpArgs false
namespace Go.HL
open Go.RowKit
variable {P : Program}

/-- All memory at the call, told as what stays. -/
def memOf (W : World) : Mem := fun b o => match W.cell? ⟨b, o, none⟩ with
  | some v => if v.oneCell' then some v else none
  | none => none
theorem memOf_some {W : World} {b o : Nat} {v : Value} (h : W.cell? ⟨b, o, none⟩ = some v) (h1 : v.oneCell' = true) : memOf W b o = some v := by simp only [memOf, h, h1, if_true]
theorem memOf_inv {W : World} {b o : Nat} {v : Value} (h : memOf W b o = some v) : W.cell? ⟨b, o, none⟩ = some v ∧ v.oneCell' = true := by
  unfold memOf at h
  split at h
  · rename_i u hu
    split at h
    · rename_i h1; injection h with h; subst h; exact ⟨hu, h1⟩
    · cases h
  · cases h
theorem sim_start (W : World) : Sim W (memOf W) (fun _ => none) W where
  base := Below.refl _ _
  low := fun b o e => by cases e
  mem := fun b o v e => memOf_inv e
  cells := fun b ds e => by cases e
  spare := fun b n c k e => by cases e
  maps := fun b es e => by cases e

structure CellsDen (M : Mem) (cs : List Value) (ds : List D) : Prop where
  len : cs.length = ds.length
  one : ∀ v ∈ cs, v.oneCell' = true
  den : ∀ (i : Nat) (v : Value) (d : D), cs[i]? = some v → ds[i]? = some d → Den M v d
theorem CellsDen.single {M : Mem} {v : Value} {d : D} (h1 : v.oneCell' = true) (h : Den M v d) : CellsDen M [v] [d] :=
  ⟨rfl, by simpa using h1, fun i u x hu hx => by
    cases i with
    | zero => simp at hu hx; subst hu hx; exact h
    | succ i => simp at hu⟩
theorem CellsDen.append {M : Mem} {a b : List Value} {x y : List D} (h : CellsDen M a x) (k : CellsDen M b y) : CellsDen M (a ++ b) (x ++ y) :=
  ⟨by simp [h.len, k.len], fun v hv => by rcases List.mem_append.1 hv with hv | hv; exact h.one v hv; exact k.one v hv, fun i u d hu hd => by
    by_cases hi : i < a.length
    · rw [List.getElem?_append_left hi] at hu
      rw [List.getElem?_append_left (by rw [← h.len]; exact hi)] at hd
      exact h.den i u d hu hd
    · rw [List.getElem?_append_right (by omega)] at hu
      rw [List.getElem?_append_right (by rw [← h.len]; omega), ← h.len] at hd
      exact k.den _ u d hu hd⟩

/-- What reads so is such a thing's cells. -/
def Cod (P : Program) (n : Nat) (t : TypeId) {α : Type} (en : α → List D) (good : α → Prop) : Prop :=
  ∀ (H : Type) (ec : TypeId × Value → H) (W : World) (fuel : Nat) (cs : List Value) (x : DataW H × List MemPlace), fuel ≤ n → DataW.trod ec P W 0 (fun _ => true) true fuel t cs = some x → ∃ a, good a ∧ CellsDen (memOf W) cs (en a)
theorem Cod.int {n : Nat} {t : TypeId} {k : IntKind} (ht : P.underlying t = some (.int k)) : Cod P n t (fun i : Int => [D.int k i]) (fun i => (Lit.int k i).wf = true) := by
  intro H ec W fuel cs x _ h
  obtain ⟨i, rfl, -, hw⟩ := DataW.trod_int ht h
  exact ⟨i, hw, .single rfl (.lit _)⟩
theorem Cod.str {n : Nat} {t : TypeId} (ht : P.underlying t = some .string) : Cod P n t (fun s : ByteArray => [D.str s]) (fun s => s.size ≤ maxLen) := by
  intro H ec W fuel cs x _ h
  obtain ⟨s, rfl, -, hw⟩ := DataW.trod_string ht h
  exact ⟨s, hw, .single rfl (.lit _)⟩
theorem Cod.bool {n : Nat} {t : TypeId} (ht : P.underlying t = some .bool) : Cod P n t (fun b : Bool => [D.bool b]) (fun _ => True) := by
  intro H ec W fuel cs x _ h
  obtain ⟨b, rfl⟩ : ∃ b, cs = [.bool b] := by
    cases fuel with
    | zero => simp [DataW.trod] at h
    | succ n =>
      unfold DataW.trod at h
      rw [ht] at h
      split at h <;> simp_all
  exact ⟨b, trivial, .single rfl (.lit _)⟩
theorem cells?_get {w : World} {a : Addr} {n : Nat} {cs : List Value} (h : w.cells? 0 a n = some cs) : cs.length = n ∧ ∀ j v, cs[j]? = some v → w.cell? (a.add j) = some v := by
  unfold World.cells? at h
  rw [if_pos (Nat.zero_le _)] at h
  have hl := mapM_some_length h
  refine ⟨by simpa using hl, fun j v hj => ?_⟩
  have hjn : j < n := by have := (List.getElem?_eq_some_iff.1 hj).1; rw [hl] at this; simpa using this
  rw [← hj]
  exact mapM_some_get h j j (by simp [hjn])
theorem Cod.slice {n : Nat} {t e : TypeId} {k : Nat} {α : Type} {en : α → List D} {good : α → Prop} (ht : P.underlying t = some (.slice e)) (hk : P.cellsOf e = k) (h0 : 0 < k) (hen : ∀ a, (en a).length = k) (he : Cod P n e en good) :
    Cod P (n + 1) t (fun l : List α => [D.list (l.map en) .ro]) (fun l => l.length ≤ maxLen ∧ ∀ a ∈ l, good a) := by
  intro H ec W fuel cs x hf h
  rcases DataW.trod_slice ht h with ⟨rfl, -⟩ | ⟨a, len, cap, elems, rest, m, rfl, rfl, -, -, hlc, hcap, hle, hel, -, -⟩
  · exact ⟨[], ⟨by simp, by simp⟩, .single rfl (.list none 0 0 k 0 0 [] .ro (fun _ _ => undef) rfl (by simp) (by simp) (by simp) (by simp) (by simp) (by simp) trivial)⟩
  · rw [hk] at hel
    have one : ∀ i, i < len → ∃ a' cs', good a' ∧ W.cells? 0 (a.add (i * k)) k = some cs' ∧ CellsDen (memOf W) cs' (en a') := by
      intro i hi
      have h1 := hel i hi
      rw [List.getElem?_eq_getElem (by omega)] at h1
      obtain ⟨cs', h2, h3⟩ := Option.bind_eq_some_iff.1 h1
      obtain ⟨a', g, hd⟩ := he H ec W m cs' _ (by omega) h3
      exact ⟨a', cs', g, h2, hd⟩
    by_cases hlen : len = 0
    · subst hlen
      refine ⟨[], ⟨by simp, by simp⟩, .single rfl (.list (some a) 0 cap k 0 0 [] .ro (fun _ _ => undef) rfl (by simp) (by simpa [maxLen] using hcap) (by simp) (by simp) (by simp) (by simp) trivial)⟩
    · obtain ⟨g, hg⟩ : ∃ g : Nat → α × List Value, ∀ i, i < len → good (g i).1 ∧ W.cells? 0 (a.add (i * k)) k = some (g i).2 ∧ CellsDen (memOf W) (g i).2 (en (g i).1) := by
        have : ∀ i, ∃ p : α × List Value, i < len → good p.1 ∧ W.cells? 0 (a.add (i * k)) k = some p.2 ∧ CellsDen (memOf W) p.2 (en p.1) := by
          intro i
          by_cases hi : i < len
          · obtain ⟨a', cs', h1, h2, h3⟩ := one i hi
            exact ⟨(a', cs'), fun _ => ⟨h1, h2, h3⟩⟩
          · obtain ⟨a', cs', -⟩ := one 0 (by omega)
            exact ⟨(a', cs'), fun h => absurd h hi⟩
        exact ⟨fun i => (this i).choose, fun i hi => (this i).choose_spec hi⟩
      have hsp : a.spot = none := by
        obtain ⟨-, h2, h3⟩ := hg 0 (by omega)
        obtain ⟨l1, l2⟩ := cells?_get h2
        have := l2 0 ((g 0).2[0]'(by omega)) (List.getElem?_eq_getElem (by omega))
        unfold World.cell? at this
        split at this
        · split at this
          · cases this
          · rename_i hs; cases hsp : a.spot <;> simp_all [Addr.add]
        · cases this
      obtain ⟨b, o, sp⟩ := a
      subst hsp
      have hlenm : ((List.range len).map fun i => (g i).1).length = len := by simp
      refine ⟨(List.range len).map fun i => (g i).1, ⟨by simp; omega, ?_⟩, .single rfl ?_⟩
      · intro a' ha'
        obtain ⟨i, hi, rfl⟩ := List.mem_map.1 ha'
        exact (hg i (by simpa using hi)).1
      · refine .list (some ⟨b, o, none⟩) len cap k b o _ .ro (fun i j => (g i).2.getD j undef) (by simp) hlc (by simpa [maxLen] using hcap) (fun _ => rfl) ?_ ?_ ?_ trivial
        · intro i e' he'
          rw [List.getElem?_map, List.getElem?_map] at he'
          obtain ⟨y, hy, rfl⟩ := Option.map_eq_some_iff.1 he'
          exact hen y
        · intro i j hi hj
          obtain ⟨-, h2, h3⟩ := hg i hi
          obtain ⟨l1, l2⟩ := cells?_get h2
          have hjl : j < (g i).2.length := by omega
          have := l2 j _ (List.getElem?_eq_getElem hjl)
          rw [List.getD_eq_getElem?_getD, List.getElem?_eq_getElem hjl]
          refine memOf_some ?_ (h3.one _ (List.getElem_mem hjl))
          rw [addr_add, addr_add] at this
          rw [Option.getD_some]
          exact this
        · intro i e' j d he' hd
          rw [List.getElem?_map, List.getElem?_map] at he'
          obtain ⟨y, hy, rfl⟩ := Option.map_eq_some_iff.1 he'
          obtain ⟨z, hz, rfl⟩ := Option.map_eq_some_iff.1 hy
          have hi : i < len := by have := (List.getElem?_eq_some_iff.1 hz).1; simpa using this
          have hzi : z = i := by rw [List.getElem?_range hi] at hz; injection hz with hz; exact hz.symm
          subst hzi
          obtain ⟨-, h2, h3⟩ := hg z hi
          have hjl : j < (g z).2.length := by have := (List.getElem?_eq_some_iff.1 hd).1; rw [h3.len]; exact this
          rw [List.getD_eq_getElem?_getD, List.getElem?_eq_getElem hjl]
          exact h3.den j _ _ (List.getElem?_eq_getElem hjl) hd

/-- A struct's fields, from a place on. -/
inductive Flds (P : Program) (n : Nat) : List (TypeId × Nat × Nat) → Nat → (α : Type) → (α → List D) → (α → Prop) → Prop
  | nil (o : Nat) : Flds P n [] o Unit (fun _ => []) (fun _ => True)
  | cons {t : TypeId} {o k : Nat} {rest : List (TypeId × Nat × Nat)} {α β : Type} {en : α → List D} {good : α → Prop} {enR : β → List D} {goodR : β → Prop} (hk : ∀ a, (en a).length = k) (h : Cod P n t en good) (r : Flds P n rest (o + k) β enR goodR) :
      Flds P n ((t, o, k) :: rest) o (α × β) (fun p => en p.1 ++ enR p.2) (fun p => good p.1 ∧ goodR p.2)
theorem Flds.told {n : Nat} {l : List (TypeId × Nat × Nat)} {o : Nat} {α : Type} {en : α → List D} {good : α → Prop} (h : Flds P n l o α en good) {H : Type} {ec : TypeId × Value → H} {W : World} {cs : List Value} {m : Nat} (hm : m ≤ n)
    (hs : ∀ (i : Nat) (t : TypeId) (o k : Nat), l[i]? = some (t, o, k) → ∃ x, DataW.trod ec P W 0 (fun _ => true) true m t ((cs.drop o).take k) = some x) (htot : cs.length = o + (l.map (·.2.2)).sum) : ∃ a, good a ∧ CellsDen (memOf W) (cs.drop o) (en a) := by
  induction h with
  | nil o =>
    refine ⟨(), trivial, ?_⟩
    rw [List.drop_eq_nil_of_le (by simp at htot; omega)]
    exact ⟨rfl, by simp, by simp⟩
  | @cons t o k rest α β en good enR goodR hk h r ih =>
    obtain ⟨x, hx⟩ := hs 0 t o k rfl
    obtain ⟨a, ga, ha⟩ := h H ec W m _ x hm hx
    obtain ⟨b, gb, hb⟩ := ih (fun i t' o' k' hi => hs (i + 1) t' o' k' (by simpa using hi)) (by simp at htot; omega)
    refine ⟨(a, b), ⟨ga, gb⟩, ?_⟩
    have : cs.drop o = (cs.drop o).take k ++ cs.drop (o + k) := by rw [← List.drop_drop, List.take_append_drop]
    rw [this]
    exact ha.append hb
theorem Cod.struct {n : Nat} {t : TypeId} {fs : Array Field} (ht : P.underlying t = some (.struct fs)) {l : List (TypeId × Nat × Nat)} (hl : fs.toList.map (fun f => (f.type, f.offset, P.cellsOf f.type)) = l) {α : Type} {en : α → List D} {good : α → Prop} (h : Flds P n l 0 α en good) (hc : P.cellsOf t = (l.map (·.2.2)).sum) : Cod P (n + 1) t en good := by
  intro H ec W fuel cs x hf hx
  obtain ⟨xs, m, rfl, -, hlen, hxl, hget⟩ := DataW.trod_struct ht hx
  have := h.told (ec := ec) (W := W) (cs := cs) (m := m) (by omega) (fun i t' o' k' hi => by
    rw [← hl, List.getElem?_map] at hi
    obtain ⟨f, hf', e⟩ := Option.map_eq_some_iff.1 hi
    simp only [Prod.mk.injEq] at e
    obtain ⟨rfl, rfl, rfl⟩ := e
    rw [Array.getElem?_toList] at hf'
    have hi' : i < fs.size := (Array.getElem?_eq_some_iff.1 hf').1
    refine ⟨xs[i]'(by omega), ?_⟩
    rw [hget i f hf']
    exact List.getElem?_eq_getElem (by omega)) (by rw [hlen, hc]; simp)
  simpa using this
theorem Cod.map {n : Nat} {t : TypeId} {α β : Type} {en : α → List D} {good : α → Prop} {en' : β → List D} {good' : β → Prop} (h : Cod P n t en good) (g : α → β) (he : ∀ a, en' (g a) = en a) (hg : ∀ a, good a → good' (g a)) : Cod P n t en' good' := by
  intro H ec W fuel cs x hf hx
  obtain ⟨a, ga, ha⟩ := h H ec W fuel cs x hf hx
  exact ⟨g a, hg a ga, by rw [he]; exact ha⟩

/-! ### The row: it returns true, and what it was handed reads as it did -/
open Go.ChangeShapes Go.WideShapes
theorem trodAll_stays {H : Type} {ec : TypeId × Value → H} (hl : laidOutB P = true) {W W' : World} (hb : Below W.heap.size W W') {sp : Nat → Bool} : ∀ (ts : List TypeId) (vs : List Value) (ds : List (DataW H)) (ps : List MemPlace), (∀ t ∈ ts, P.readableRec t = true ∧ t < P.types.size) →
    DataW.TrodAll ec P W 0 (fun _ => true) true ts vs ds ps → (∀ x ∈ ps, x.block < W.heap.size) → (∀ x ∈ ps, sp x.block = true) → DataW.TrodAll ec P W' 0 sp true ts vs ds ps := by
  intro ts
  induction ts with
  | nil =>
    intro vs ds ps _ h _ _
    cases vs <;> cases ds <;> simp [DataW.TrodAll] at h ⊢
    exact h
  | cons t ts ih =>
    intro vs ds ps hr h hlt hsp
    cases vs with
    | nil => simp [DataW.TrodAll] at h
    | cons v vs => cases ds with
      | nil => simp [DataW.TrodAll] at h
      | cons d ds =>
        obtain ⟨p, q, h1, h2, rfl⟩ := h
        have hr1 := hr t (by simp)
        exact ⟨p, q, WideElems.Trod_stays hl hr1.1 hr1.2 h1 (fun x hx => hb.same (hlt x (by simp [hx]))) (fun x hx => hsp x (by simp [hx])), ih vs ds q (fun t ht => hr t (by simp [ht])) h2 (fun x hx => hlt x (by simp [hx])) (fun x hx => hsp x (by simp [hx])), rfl⟩
theorem trodAll_append' {H : Type} {ec : TypeId × Value → H} {w : World} {b : Nat} {sp : Nat → Bool} {hd : Bool} : ∀ {ts us : List TypeId} {vs xs : List Value} {ds es : List (DataW H)} {p q : List MemPlace}, DataW.TrodAll ec P w b sp hd ts vs ds p → DataW.TrodAll ec P w b sp hd us xs es q → DataW.TrodAll ec P w b sp hd (ts ++ us) (vs ++ xs) (ds ++ es) (p ++ q) := by
  intro ts
  induction ts with
  | nil =>
    intro us vs xs ds es p q h1 h2
    obtain ⟨rfl, rfl, rfl⟩ := trodAll_nil h1
    exact h2
  | cons t ts ih =>
    intro us vs xs ds es p q h1 h2
    obtain ⟨v, vs', d, ds', p1, q1, rfl, rfl, rfl, hd1, hr1⟩ := trodAll_cons h1
    exact ⟨p1, q1 ++ q, hd1, ih hr1 h2, by simp⟩
theorem row_calls {H : Type} {ec : TypeId × Value → H} (hl : laidOutB P = true) {f : FuncId} {fn : Func} {s : ChangeSpec} {rt : TypeId} (hvars : s.vars = []) (hres : fn.resultTypes = #[rt]) (hrt : P.underlying rt = some .bool) (hread : ∀ t ∈ fn.params.toList, P.readableRec t = true ∧ t < P.types.size)
    {apart fresh handsOn again : Bool} {W : World} {args : Array Value} {ds gs : List (DataW H)} {before : List MemPlace} (hW : DataW.Whole ec P fn.params.toList s.vars apart W args.toList ds gs before)
    (hsp : s.fn H (ds ++ gs) = { results := [.lit (.bool true)], args := ds }) {xs : List D} (hlen : args.size = xs.length) (hden : ∀ (i : Nat) (d : D), xs[i]? = some d → Den (memOf W) (args.getD i undef) d)
    (hc : HCalls P f xs (fun _ => none) fun d _ => d = .bool true) : Calls P f args W fun e W' => ∃ v, e = .returned v ∧ s.post ec P fn apart fresh handsOn again W args v W' := by
  refine (hc W (memOf W) W args (sim_start W) hlen hden).mono ?_
  rintro e W' ⟨v, M', d, σ', rfl, -, hs, hv, rfl⟩
  have := den_lit_inv hv; subst this
  refine ⟨_, rfl, ?_⟩
  have hW' := hW
  obtain ⟨p, q, hA, hV, rfl, hfz, hnd⟩ := hW
  rw [hvars] at hV
  obtain ⟨rfl, rfl⟩ := trodVars_none hV
  simp only [List.append_nil] at hW'
  have hsp' : s.fn H (ds ++ []) = { results := [.lit (.bool true)], args := ds } := hsp
  have hb : Below W.heap.size W W' := hs.base
  have hlt : ∀ x ∈ p, x.block < W.heap.size := fun x hx => by simpa using hW'.lt x hx
  have hr : ∀ (b : Nat) (sp : Nat → Bool) (hd : Bool), DataW.TrodAll ec P W' b sp hd fn.resultTypes.toList ((Value.bool true).resultList fn.resultTypes.size) [.lit (.bool true)] [] := fun b sp hd => by
    rw [hres]; exact trodAll_mk1 (shut_bool hrt true)
  have ha : ∀ sp : Nat → Bool, (∀ x ∈ p, sp x.block = true) → DataW.TrodAll ec P W' 0 sp true fn.params.toList args.toList ds p := fun sp hsp => trodAll_stays hl hb _ _ _ _ hread hA hlt hsp
  have hold : ∀ x ∈ p, (fun b => decide (b < W.heap.size)) x.block = true := fun x hx => by simpa using hlt x hx
  have hv : ∀ sp : Nat → Bool, DataW.TrodVars ec P W' sp s.vars [] [] := fun sp => by rw [hvars]; rfl
  refine ⟨ds, [], p, [], p, [], hW', ?_, ?_, ?_, World.keptBut_mono (fun x hx => ⟨hx, .inr (.inl hx)⟩) (hb.frame _), fun _ => ?_⟩
  · rw [hsp']; exact hr _ _ _
  · rw [hsp']; exact ha _ hold
  · rw [hsp']; exact hv _
  · refine ⟨ok_one hres rfl (okWide_bool_mk hrt true), [.lit (.bool true)] ++ ds, [], [] ++ p, ⟨[] ++ p, [], ?_, hv _, by simp, ?_, ?_⟩, ?_⟩
    · exact trodAll_append' (hr _ _ _) (ha _ (fun _ _ => rfl))
    · intro b off hx
      rw [hb.frozen (hlt (.cell b off) (by simpa using hx))]
      exact hfz b off (by simpa using hx)
    · intro h1
      have := hnd h1
      simpa using this
    · intro x hx _
      simpa using hx
end Go.HL
/- HL, part R: a law's row, from its function's contract. -/
set_option linter.unusedVariables false
set_option linter.unusedSimpArgs false
namespace Go.HL
open Go.RowKit Go.ChangeShapes Go.WideShapes
variable {P : Program}

theorem Cod.zero {t : TypeId} {α : Type} {en : α → List D} {good : α → Prop} : Cod P 0 t en good := by
  intro H ec W fuel cs x hf h
  obtain rfl : fuel = 0 := by omega
  simp [DataW.trod] at h
theorem Cod.sliceN {t e : TypeId} {k : Nat} {α : Type} {en : α → List D} {good : α → Prop} (ht : P.underlying t = some (.slice e)) (hk : P.cellsOf e = k) (h0 : 0 < k) (hen : ∀ a, (en a).length = k) (he : ∀ n, Cod P n e en good) (n : Nat) :
    Cod P n t (fun l : List α => [D.list (l.map en) .ro]) (fun l => l.length ≤ maxLen ∧ ∀ a ∈ l, good a) := by
  cases n with
  | zero => exact Cod.zero
  | succ n => exact Cod.slice ht hk h0 hen (he n)
theorem Cod.structN {t : TypeId} {fs : Array Field} (ht : P.underlying t = some (.struct fs)) {l : List (TypeId × Nat × Nat)} (hl : fs.toList.map (fun f => (f.type, f.offset, P.cellsOf f.type)) = l) {α : Type} {en : α → List D} {good : α → Prop} (h : ∀ n, Flds P n l 0 α en good) (hc : P.cellsOf t = (l.map (·.2.2)).sum) (n : Nat) : Cod P n t en good := by
  cases n with
  | zero => exact Cod.zero
  | succ n => exact Cod.struct ht hl (h n) hc

theorem Cod.mapG {n : Nat} {t : TypeId} {α β : Type} {en : α → List D} {good : α → Prop} {en' : β → List D} {good' : β → Prop} (h : Cod P n t en good) (g : α → β) (he : ∀ a, good a → en' (g a) = en a) (hg : ∀ a, good a → good' (g a)) : Cod P n t en' good' := by
  intro H ec W fuel cs x hf hx
  obtain ⟨a, ga, ha⟩ := h H ec W fuel cs x hf hx
  exact ⟨g a, hg a ga, by rw [he a ga]; exact ha⟩
/-- What a parameter is handed reads as one of these. -/
def HasArg (P : Program) (t : TypeId) {α : Type} (ar : α → D) (good : α → Prop) : Prop :=
  ∀ (H : Type) (ec : TypeId × Value → H) (W : World) (base : Nat) (v : Value) (d : DataW H) (p : List MemPlace), Value.okWide P W .any base t v → DataW.Trod ec P W 0 (fun _ => true) true t v d p → ∃ a, good a ∧ Den (memOf W) v (ar a)
theorem HasArg.one {t : TypeId} {α : Type} {ar : α → D} {good : α → Prop} (h1 : ∀ (W : World) (base : Nat) (v : Value), Value.okWide P W .any base t v → v.oneCell' = true) (h : ∀ n, Cod P n t (fun a => [ar a]) good) : HasArg P t ar good := by
  rintro H ec W base v d p hv ⟨fuel, ht⟩
  rw [cells_one (h1 W base v hv)] at ht
  obtain ⟨a, ga, ha⟩ := h fuel H ec W fuel _ _ (Nat.le_refl _) ht
  exact ⟨a, ga, ha.den 0 v (ar a) rfl rfl⟩
theorem HasArg.slice {t e : TypeId} {k : Nat} {α : Type} {en : α → List D} {good : α → Prop} (ht : P.underlying t = some (.slice e)) (hk : P.cellsOf e = k) (h0 : 0 < k) (hen : ∀ a, (en a).length = k) (he : ∀ n, Cod P n e en good) :
    HasArg P t (fun l : List α => D.list (l.map en) .ro) (fun l => l.length ≤ maxLen ∧ ∀ a ∈ l, good a) :=
  HasArg.one (fun W base v hv => by obtain ⟨a, n, c, rfl⟩ := okWide_slice ht hv; rfl) (Cod.sliceN ht hk h0 hen he)
theorem HasArg.int {t : TypeId} {k : IntKind} (ht : P.underlying t = some (.int k)) : HasArg P t (fun i : Int => D.int k i) (fun i => (Lit.int k i).wf = true) :=
  HasArg.one (fun W base v hv => by obtain ⟨n, rfl⟩ := okWide_int ht hv; rfl) (fun n => Cod.int ht)
theorem HasArg.str {t : TypeId} (ht : P.underlying t = some .string) : HasArg P t (fun s : ByteArray => D.str s) (fun s => s.size ≤ maxLen) :=
  HasArg.one (fun W base v hv => by obtain ⟨n, rfl⟩ := okWide_string ht hv; rfl) (fun n => Cod.str ht)
theorem HasArg.bool {t : TypeId} (ht : P.underlying t = some .bool) : HasArg P t (fun s : Bool => D.bool s) (fun _ => True) :=
  HasArg.one (fun W base v hv => by obtain ⟨n, rfl⟩ := okWide_bool ht hv; rfl) (fun n => Cod.bool ht)
theorem HasArg.struct {t : TypeId} {fs : Array Field} {α : Type} {en : α → List D} {good : α → Prop} (ht : P.underlying t = some (.struct fs)) (h : ∀ n, Cod P n t en good) : HasArg P t (fun a => D.agg (en a)) good := by
  rintro H ec W base v d p hv ⟨fuel, htr⟩
  obtain ⟨cs, rfl, -⟩ := okWide_struct ht hv
  obtain ⟨a, ga, ha⟩ := h fuel H ec W fuel _ _ (Nat.le_refl _) htr
  have hl := ha.len
  simp only [Value.cells] at hl ha
  refine ⟨a, ga, .agg cs _ (by simpa using hl) (fun i hi => ?_) (fun i d hd => ?_)⟩
  · have := ha.one cs[i] (by simp)
    simpa [Array.getD, hi] using this
  · have hi : i < cs.size := by have := (List.getElem?_eq_some_iff.1 hd).1; rw [← hl] at this; simpa using this
    have := ha.den i cs[i] d (by simp [hi]) hd
    simpa [Array.getD, hi] using this

/-- All parameters. -/
inductive Args (P : Program) : List TypeId → (α : Type) → (α → List D) → (α → Prop) → Prop
  | nil : Args P [] Unit (fun _ => []) (fun _ => True)
  | cons {t : TypeId} {ts : List TypeId} {α β : Type} {ar : α → D} {good : α → Prop} {en : β → List D} {goodR : β → Prop} (h : HasArg P t ar good) (r : Args P ts β en goodR) : Args P (t :: ts) (α × β) (fun p => ar p.1 :: en p.2) (fun p => good p.1 ∧ goodR p.2)
theorem Args.told {ts : List TypeId} {α : Type} {en : α → List D} {good : α → Prop} (h : Args P ts α en good) {H : Type} {ec : TypeId × Value → H} {W : World} {base : Nat} : ∀ (vs : List Value) (ds : List (DataW H)) (ps : List MemPlace),
    (∀ (j : Nat) t v, ts[j]? = some t → vs[j]? = some v → Value.okWide P W .any base t v) → DataW.TrodAll ec P W 0 (fun _ => true) true ts vs ds ps →
    ∃ a, good a ∧ vs.length = (en a).length ∧ ds.length = ts.length ∧ ∀ (i : Nat) (v : Value) (d : D), vs[i]? = some v → (en a)[i]? = some d → Den (memOf W) v d := by
  induction h with
  | nil =>
    intro vs ds ps _ h
    obtain ⟨rfl, rfl, rfl⟩ := trodAll_nil h
    exact ⟨(), trivial, rfl, rfl, fun i v d hv => by simp at hv⟩
  | @cons t ts α β ar good en goodR h r ih =>
    intro vs ds ps hok htr
    obtain ⟨v, vs', d, ds', p, q, rfl, rfl, rfl, h1, h2⟩ := trodAll_cons htr
    obtain ⟨a, ga, ha⟩ := h H ec W base v d p (hok 0 t v rfl rfl) h1
    obtain ⟨b, gb, hl, hl2, hb⟩ := ih vs' ds' q (fun j t v h1 h2 => hok (j + 1) t v (by simpa using h1) (by simpa using h2)) h2
    refine ⟨(a, b), ⟨ga, gb⟩, by simp [hl], by simp [hl2], fun i u x hu hx => ?_⟩
    cases i with
    | zero => simp at hu hx; subst hu hx; exact ha
    | succ i => exact hb i u x (by simpa using hu) (by simpa using hx)

theorem row_lifted {C : Checked} {os : Os} {f : FuncId} {fn : Func} {s : ChangeSpec} {conds : List PathCond} {fresh handsOn again : Bool} {H : Type} {enc : TypeId × Value → H}
    (own : ownKnob C.prog.godebug = none) (started : os.Started) (noInit : C.prog.inits.idxOf? f = none) (hfn : C.prog.funcs[f]? = some fn)
    (witness : ∃ (w : World) (tape : Tape) (i : Input), w.os = os ∧ (w.forCall tape i).Shaped C.prog ∧ i.vars = [] ∧ Input.okWide C.prog (w.forCall tape i) .any w.heap.size f i ∧
      s.pre6 enc C.prog fn conds false (w.forCall tape i).memory i.args ∧ ({} : Assume).holds C.prog (lone (Frame.enter C.prog f i.args .normal) [] (w.forCall tape i)))
    (hl : laidOutB C.prog = true) {rt : TypeId} (hvars : s.vars = []) (hres : fn.resultTypes = #[rt]) (hrt : C.prog.underlying rt = some .bool) (hread : ∀ t ∈ fn.params.toList, C.prog.readableRec t = true ∧ t < C.prog.types.size)
    (hsp : ∀ ds : List (DataW H), ds.length = fn.params.toList.length → s.fn H ds = { results := [.lit (.bool true)], args := ds })
    {α : Type} {en : α → List D} {good : α → Prop} (hA : Args C.prog fn.params.toList α en good) (hc : ∀ a, good a → Ret C.prog f (en a) (.bool true)) :
    ReturnsInHanded {} C os f .any (s.pre6 enc C.prog fn conds false) (s.post enc C.prog fn false fresh handsOn again) := by
  refine returnsInHanded_of_change own started noInit hfn witness ?_
  intro W base args ds gs before hval hW hcnd _
  have hW' := hW
  obtain ⟨p, q, hTA, hV, rfl, hfz, hnd⟩ := hW'
  obtain ⟨a, ga, hlen, hdl, hden⟩ := hA.told args.toList ds p (fun j t v h1 h2 => hval j t v (by simpa using h1) (by simpa using h2)) hTA
  rw [hvars] at hV
  obtain ⟨rfl, rfl⟩ := trodVars_none hV
  refine row_calls hl hvars hres hrt hread hW (xs := en a) (by simpa using hsp ds hdl) (by simpa using hlen) (fun i d hd => ?_) ((hc a ga) _ _ rfl)
  have hi : i < args.size := by have := (List.getElem?_eq_some_iff.1 hd).1; simp at hlen; omega
  have := hden i args[i] d (by simp [hi]) hd
  simpa [Array.getD, hi] using this
end Go.HL
/- HL, part S: lists that grow; what loops keep. -/
set_option linter.unusedVariables false
set_option linter.unusedSimpArgs false
namespace Go.HL
open Go.RowKit
variable {P : Program} {σ : Store}

/-! ### Maps -/
def foundV (s : ByteArray) (es : List (ByteArray × Value)) (z : D) : D := match mfind s es with
  | some v => .lit v
  | none => z
def lookC (P : Program) (T : TI) (z : D) (s : ByteArray) (ok : Bool) (o : Option HObj) (K : D → Prop) : Prop := match o with
  | some (.hmap es) => T.kk.mapKey P = true ∧ K (if ok then .tup [foundV s es z, .bool (mfind s es).isSome] else foundV s es z)
  | _ => False
@[simp] theorem lookC_hmap (T : TI) (z : D) (s : ByteArray) (ok : Bool) (es : List (ByteArray × Value)) (K : D → Prop) : lookC P T z s ok (some (.hmap es)) K = (T.kk.mapKey P = true ∧ K (if ok then .tup [foundV s es z, .bool (mfind s es).isSome] else foundV s es z)) := (rfl)
@[simp] theorem hlookup_some (T : TI) (k : KK) (sz by' : Nat) (z : D) (fl : List (Nat × Nat × Bool)) (r : Nat) (s : ByteArray) (ok : Bool) (σ : Store) (K : D → Prop) : hlookup P T ⟨k, sz, by', some [z], fl⟩ (.lit (.map (some r))) (.lit (.string s)) ok σ K = lookC P T z s ok (σ r) K := by
  cases h : σ r with
  | none => simp only [hlookup, entriesOf, lookC, foundV, h]
  | some o => cases o <;> simp only [hlookup, entriesOf, lookC, foundV, h] <;> rfl
@[simp] theorem hlookup_none (T : TI) (k : KK) (sz by' : Nat) (z : D) (fl : List (Nat × Nat × Bool)) (s : ByteArray) (ok : Bool) (σ : Store) (K : D → Prop) : hlookup P T ⟨k, sz, by', some [z], fl⟩ (.lit (.map none)) (.lit (.string s)) ok σ K = (T.kk.mapKey P = true ∧ K (if ok then .tup [z, .bool false] else z)) := (rfl)
def updC (P : Program) (T : TI) (r : Nat) (s : ByteArray) (v : Value) (σ : Store) (o : Option HObj) (K : Store → Prop) : Prop := match o with
  | some (.hmap es) => T.kk.mapKey P = true ∧ K (σ.set r (.hmap (mput s v es)))
  | _ => False
@[simp] theorem updC_hmap (T : TI) (r : Nat) (s : ByteArray) (v : Value) (σ : Store) (es : List (ByteArray × Value)) (K : Store → Prop) : updC P T r s v σ (some (.hmap es)) K = (T.kk.mapKey P = true ∧ K (σ.set r (.hmap (mput s v es)))) := (rfl)
@[simp] theorem hmapUpdate_some (T : TI) (r : Nat) (s : ByteArray) (v : Value) (σ : Store) (K : Store → Prop) : hmapUpdate P T (.lit (.map (some r))) (.lit (.string s)) (.lit v) σ K = updC P T r s v σ (σ r) K := by
  cases h : σ r with
  | none => simp only [hmapUpdate, updC, h]
  | some o => cases o <;> simp only [hmapUpdate, updC, h]
def lenC (T : TI) (o : Option HObj) (K : D → Prop) : Prop := match o with
  | some (.hmap es) => (match T.kk with | .map _ _ => True | _ => False) ∧ K (.int .i64 es.length)
  | _ => False
@[simp] theorem lenC_hmap (T : TI) (es : List (ByteArray × Value)) (K : D → Prop) : lenC T (some (.hmap es)) K = ((match T.kk with | .map _ _ => True | _ => False) ∧ K (.int .i64 es.length)) := (rfl)
@[simp] theorem hlen_map (T : TI) (r : Nat) (σ : Store) (K : D → Prop) : hlen T (.lit (.map (some r))) σ K = lenC T (σ r) K := by
  cases h : σ r with
  | none => simp only [hlen, entriesOf, lenC, h]
  | some o => cases o <;> simp only [hlen, entriesOf, lenC, h] <;> rfl
@[simp] theorem hlen_mapnil (T : TI) (σ : Store) (K : D → Prop) : hlen T (.lit (.map none)) σ K = ((match T.kk with | .map _ _ => True | _ => False) ∧ K (.int .i64 0)) := (rfl)

/-- So up to a place. -/
def Upto (p : Nat → Bool) (i : Nat) : Prop := ∀ j, j < i → p j = true
theorem Upto.zero (p : Nat → Bool) : Upto p 0 := fun j h => by omega
theorem Upto.succ {p : Nat → Bool} {i : Nat} (h : Upto p i) (hp : p i = true) : Upto p (i + 1) := fun j hj => by
  by_cases e : j = i
  · subst e; exact hp
  · exact h j (by omega)
theorem next {R : Nat → Prop} {i n N : Nat} (hi : i + n = N) (h1 : i < N) (h2 : N ≤ 9223372036854775807) (h : R (i + 1)) : ∃ m, m < n ∧ ∃ i', i' + m = N ∧ IntKind.i64.wrap (↑i + 1) = ↑i' ∧ R i' :=
  ⟨n - 1, by omega, i + 1, by omega, by rw [wrap_i64] <;> omega, h⟩
/-- So of all of a list's up to a place. -/
def Front {α : Type} (p : α → Bool) (l : List α) (i : Nat) : Prop := (l.take i).all p = true
theorem Front.zero {α : Type} (p : α → Bool) (l : List α) : Front p l 0 := by simp [Front]
theorem take_next {α : Type} {l : List α} {i : Nat} {x : α} (hx : l[i]? = some x) : l.take (i + 1) = l.take i ++ [x] := by rw [List.take_add_one, hx]; rfl
theorem Front.succ {α : Type} {p : α → Bool} {l : List α} {i : Nat} {x : α} (h : Front p l i) (hx : l[i]? = some x) (hp : p x = true) : Front p l (i + 1) := by
  unfold Front at h ⊢
  rw [take_next hx, List.all_append, h]
  simp [hp]
theorem Front.all {α : Type} {p : α → Bool} {l : List α} {i : Nat} (h : Front p l i) (hi : l.length ≤ i) : l.all p = true := by
  unfold Front at h; rwa [List.take_of_length_le hi] at h
theorem all_no {α : Type} {p : α → Bool} {l : List α} {i : Nat} {x : α} (hx : l[i]? = some x) (hp : p x = false) : l.all p = false := by
  rw [List.all_eq_false]; exact ⟨x, List.mem_of_getElem? hx, by simp [hp]⟩

/-- A list that may grow: its word, and the store. -/
inductive Gr (k : Nat) (σ : Store) : List (List D) → Tok → Store → Prop
  | nil : Gr k σ [] .nil σ
  | full (es : List (List D)) : Gr k σ es .full σ
  | own (es : List (List D)) (b c : Nat) (hb : σ b = none) : Gr k σ es (.own b c k) (σ.set b (.spare es.length c k))
theorem Gr.le {k : Nat} {es : List (List D)} {tok : Tok} {s : Store} (h : Gr k σ es tok s) : SLe σ s := by
  cases h with
  | nil => exact SLe.refl σ
  | full _ => exact SLe.refl σ
  | own _ b c hb => exact (SLe.refl σ).set hb _
def HObj.live : HObj → Bool
  | .spare _ _ _ => false
  | _ => true
/-- What stands written stays, but for lists' spare room. -/
def Keep (s s' : Store) : Prop := ∀ x o, o.live = true → s x = some o → s' x = some o
theorem Keep.set {s : Store} {b : Nat} (hb : s b = none ∨ ∃ n c k, s b = some (.spare n c k)) (o : HObj) : Keep s (s.set b o) := by
  intro x o' hl h
  by_cases e : x = b
  · subst e
    rcases hb with hb | ⟨n, c, k, hb⟩
    · rw [hb] at h; cases h
    · rw [hb] at h; injection h with h; subst h; cases hl
  · rw [Store.set_ne _ _ _ _ e]; exact h
theorem Keep.refl (s : Store) : Keep s s := fun _ _ _ h => h
theorem Keep.trans {a b c : Store} (h : Keep a b) (h' : Keep b c) : Keep a c := fun x o l e => h' x o l (h x o l e)
theorem SLe.keep {a b : Store} (h : SLe a b) : Keep a b := fun x o _ e => h x o e
theorem Keep.cells {s s' : Store} (h : Keep s s') {b : Nat} {ds : List D} (e : s b = some (.cells ds)) : s' b = some (.cells ds) := h b _ rfl e
theorem Gr.append {k : Nat} {es : List (List D)} {tok : Tok} {s s2 : Store} (h : Gr k σ es tok s) (hs : SLe s s2) {E : TI} (hk : E.size = k) (xs : List (List D)) (h1 : (es.length + xs.length) * E.bytes ≤ 140737488355328) (h2 : es.length + xs.length ≤ 9223372036854775807)
    {K : D → Store → Prop} (hK : ∀ tok' s' s3, SLe s3 s' → Keep s2 s' → Gr k σ (es ++ xs) tok' s3 → K (.list (es ++ xs) tok') s') : appA false E xs (.list es tok) s2 K := by
  have hsig : SLe σ s2 := h.le.trans hs
  cases h with
  | nil =>
    rw [appA_nil]
    refine ⟨⟨h1, h2⟩, fun e => ?_, fun e b c hb hc => ?_⟩
    · subst e; exact hK _ _ _ hs (Keep.refl _) .nil
    · have := Gr.own (σ := σ) (k := k) ([] ++ xs) b c (hsig.none hb)
      rw [hk]
      refine hK _ _ _ ?_ ?_ this
      · simp only [List.length_append]
        exact SLe_drop hsig b
      · exact Keep.set (.inl hb) _
  | full _ =>
    rw [appA_full]
    refine ⟨⟨h1, h2⟩, fun e => ?_, fun e b c hb hc => ?_⟩
    · subst e
      have := hK .full s2 σ hs (Keep.refl _)
      simp only [List.append_nil] at this
      exact this (.full es)
    · have := Gr.own (σ := σ) (k := k) (es ++ xs) b c (hsig.none hb)
      rw [hk]
      refine hK _ _ _ ?_ ?_ this
      · simp only [List.length_append]
        exact SLe_drop hsig b
      · exact Keep.set (.inl hb) _
  | own _ b c hb =>
    rw [appA_own]
    refine ⟨⟨h1, h2⟩, ⟨hs _ _ (by simp), hk.symm⟩, fun e => ?_, fun e b' c' hb' hc' => ?_⟩
    · have := Gr.own (σ := σ) (k := k) (es ++ xs) b c hb
      refine hK _ _ _ ?_ ?_ this
      · simp only [List.length_append]
        exact SLe_drop hsig b
      · exact Keep.set (.inr ⟨es.length, c, k, hs _ _ (by simp)⟩) _
    · have := Gr.own (σ := σ) (k := k) (es ++ xs) b' c' (hsig.none hb')
      refine hK _ _ _ ?_ ?_ this
      · simp only [List.length_append]
        exact SLe_drop hsig b'
      · exact Keep.set (.inl hb') _
theorem Gr.appendT {α : Type} {f : α → List D} {k : Nat} {l : List α} {tok : Tok} {s s2 : Store} (h : Gr k σ (l.map f) tok s) (hs : SLe s s2) (xs : List α) {ds : List (List D)} {E : TI} {K : D → Store → Prop} (hds : ds = xs.map f) (hk : E.size = k)
    (h1 : (l.length + xs.length) * E.bytes ≤ 140737488355328) (h2 : l.length + xs.length ≤ 9223372036854775807)
    (hK : ∀ out tok' s' s3, out = l ++ xs → SLe s3 s' → Keep s2 s' → Gr k σ (out.map f) tok' s3 → K (.list (out.map f) tok') s') : appA false E ds (.list (l.map f) tok) s2 K := by
  subst hds
  refine h.append hs hk (xs.map f) (by simpa using h1) (by simpa using h2) ?_
  intro tok' s' s3 g1 g2 g3
  rw [← List.map_append] at g3 ⊢
  exact hK _ _ _ _ rfl g1 g2 g3
/-- A block that is handed over, told as a list. -/
theorem HCalls.frozenArg {f : FuncId} {d d' : D} {ds : List D} {s s' : Store} {Q : D → Store → Prop} (hs : SLe s' s) (hf : Frz s' s d d') (h : HCalls P f (d' :: ds) s' Q) : HCalls P f (d :: ds) s Q := by
  intro w0 M w vs hsim hl hd
  obtain ⟨M', hM, hS, hD⟩ := hf.goes hsim hs (hd 0 d rfl)
  refine (h w0 M' w vs hS (by simpa using hl) (fun i x hx => ?_)).mono ?_
  · cases i with
    | zero => simp at hx; subst hx; exact hD
    | succ i => exact (hd (i + 1) x (by simpa using hx)).mono hM
  · rintro e w' ⟨v, M'', d, σ', r1, r2, r3⟩
    exact ⟨v, M'', d, σ', r1, hM.trans r2, r3⟩
theorem SLe.put {s s' : Store} (h : SLe s s') {b : Nat} (hb : s b = Option.none) (o : HObj) : SLe s (s'.set b o) := by
  intro x o' e
  by_cases hx : x = b
  · subst hx; rw [hb] at e; cases e
  · rw [Store.set_ne _ _ _ _ hx]; exact h x o' e
theorem Gr.off {k : Nat} {es : List (List D)} {tok : Tok} {s s2 : Store} (h : Gr k σ es tok s) (hs : SLe s s2) {b : Nat} (hb : σ b = none) {ds : List D} (e : s2 b = some (.cells ds)) : s b = none := by
  cases hx : s b with
  | none => rfl
  | some o =>
    have := hs b o hx
    rw [e] at this
    injection this with this
    subst this
    cases h with
    | nil => rw [hb] at hx; cases hx
    | full _ => rw [hb] at hx; cases hx
    | own _ b2 c hb2 =>
      by_cases hbb : b = b2
      · subst hbb; rw [Store.set_same] at hx; cases hx
      · rw [Store.set_ne _ _ _ _ hbb, hb] at hx; cases hx
@[simp] theorem hmake_eq (T : TI) (k : KK) (sz by' : Nat) (z : List D) (fl : List (Nat × Nat × Bool)) (n m : Int) (σ : Store) (K : D → Store → Prop) : hmake T ⟨k, sz, by', some z, fl⟩ (.lit (.int .i64 n)) (.lit (.int .i64 m)) σ K =
    ((n = m ∧ 0 ≤ n ∧ by' * n ≤ 140737488355328 ∧ n ≤ 9223372036854775807 ∧ z.length = sz) ∧ ∀ b, σ b = none → K (.lit (.slice (some ⟨b, 0, none⟩) n.toNat n.toNat)) (σ.set b (.cells (zrep n.toNat z)))) := (rfl)
/-- What hands back a list, and leaves the store. -/
def RetL (P : Program) (f : FuncId) (ds : List D) (es : List (List D)) : Prop := ∀ (σ : Store) (Q : D → Store → Prop), (∀ tok, Q (.list es tok) σ) → HCalls P f ds σ Q
theorem RetL.of {f : FuncId} {ds : List D} {es : List (List D)} (h : ∀ σ, HCalls P f ds σ fun d s => (∃ tok, d = .list es tok) ∧ s = σ) : RetL P f ds es := fun σ Q hq => (h σ).mono fun d s ⟨⟨tok, h1⟩, h2⟩ => by subst h1 h2; exact hq tok
/-- What hands back a list and more, and leaves the store. -/
def RetLs (P : Program) (f : FuncId) (ds : List D) (es : List (List D)) (more : List D) : Prop := ∀ (σ : Store) (Q : D → Store → Prop), (∀ tok, Q (.tup (.list es tok :: more)) σ) → HCalls P f ds σ Q
theorem RetLs.of {f : FuncId} {ds : List D} {es : List (List D)} {more : List D} (h : ∀ σ, HCalls P f ds σ fun d s => (∃ tok, d = .tup (.list es tok :: more)) ∧ s = σ) : RetLs P f ds es more := fun σ Q hq => (h σ).mono fun d s ⟨⟨tok, h1⟩, h2⟩ => by subst h1 h2; exact hq tok

/-! ### What is owned -/
theorem Own.hlen {α : Type} {f : α → List D} {k : Nat} {s : Store} {l : List α} {d : D} (h : Own f k σ l d s) (T : TI) (s' : Store) (K : D → Prop) : hlen T d s' K = (T.kk.isSlice = true ∧ K (.int .i64 l.length)) := by
  cases h with
  | nil h => subst h; rfl
  | cells b c rest => rfl
theorem Own.some {α : Type} {f : α → List D} {k : Nat} {s : Store} {l : List α} {d : D} (h : Own f k σ l d s) (hl : l ≠ []) : ∃ b c rest, d = .lit (.slice (Option.some ⟨b, 0, none⟩) l.length c) ∧ σ b = none ∧ l.length ≤ c ∧ c ≤ 9223372036854775807 ∧ rest.length = (c - l.length) * k ∧ s = σ.set b (.cells ((l.map f).flatten ++ rest)) := by
  cases h with
  | nil h => exact absurd h hl
  | cells b c rest h1 h2 h3 h4 => exact ⟨b, c, rest, rfl, h1, h2, h3, h4, rfl⟩
/-- The last one left off. -/
theorem Own.pop {α : Type} {f : α → List D} {k : Nat} (hf : ∀ a, (f a).length = k) {l : List α} {a : α} {b c : Nat} {rest : List D} (h1 : σ b = none) (h2 : (l ++ [a]).length ≤ c) (h3 : c ≤ 9223372036854775807) (h4 : rest.length = (c - (l ++ [a]).length) * k) :
    Own f k σ l (.lit (.slice (Option.some ⟨b, 0, none⟩) l.length c)) (σ.set b (.cells (((l ++ [a]).map f).flatten ++ rest))) := by
  have e : ((l ++ [a]).map f).flatten ++ rest = (l.map f).flatten ++ (f a ++ rest) := by simp
  rw [e]
  simp only [List.length_append, List.length_cons, List.length_nil] at h2 h4
  refine .cells b c (f a ++ rest) h1 (by omega) h3 ?_
  rw [List.length_append, hf, h4]
  have : c - l.length = (c - (l.length + (0 + 1))) + 1 := by omega
  rw [this, Nat.succ_mul]; omega

/-! ### No word on appending -/
inductive Wk : D → D → Prop
  | refl (d : D) : Wk d d
  | list (es : List (List D)) (tok : Tok) : Wk (.list es tok) (.list es .ro)
  | deep (es es' : List (List D)) (tok : Tok) (hl : es.length = es'.length) (hk : ∀ (i : Nat) (e e' : List D), es[i]? = some e → es'[i]? = some e' → e.length = e'.length)
      (h2 : ∀ (i : Nat) (e e' : List D) (j : Nat) (d d' : D), es[i]? = some e → es'[i]? = some e' → e[j]? = some d → e'[j]? = some d' → Wk d d') : Wk (.list es tok) (.list es' .ro)
  | agg (ds ds' : List D) (h : ds.length = ds'.length) (h2 : ∀ (i : Nat) (d d' : D), ds[i]? = some d → ds'[i]? = some d' → Wk d d') : Wk (.agg ds) (.agg ds')
  | tup (ds ds' : List D) (h : ds.length = ds'.length) (h2 : ∀ (i : Nat) (d d' : D), ds[i]? = some d → ds'[i]? = some d' → Wk d d') : Wk (.tup ds) (.tup ds')
theorem Wk.goes {M : Mem} {d d' : D} (h : Wk d d') : ∀ {v : Value}, Den M v d → Den M v d' := by
  induction h with
  | refl d => intro v hv; exact hv
  | list es tok =>
    intro v hv
    cases hv with
    | list a n c k b o _ _ cv hn hc hc2 ha hk hm hd ht => exact .list a n c k b o es .ro cv hn hc hc2 ha hk hm hd trivial
  | deep es es' tok hl hk h2 ih =>
    intro v hv
    cases hv with
    | list a n c k b o _ _ cv hn hc hc2 ha hk' hm hd ht =>
      have back : ∀ (i : Nat) (e' : List D), es'[i]? = some e' → ∃ e, es[i]? = some e ∧ e.length = e'.length := fun i e' he => by
        have hi : i < es.length := by have := (List.getElem?_eq_some_iff.1 he).1; omega
        exact ⟨es[i], List.getElem?_eq_getElem hi, hk i _ _ (List.getElem?_eq_getElem hi) he⟩
      refine .list a n c k b o es' .ro cv (hn.trans hl) hc hc2 ha (fun i e' he => ?_) hm (fun i e' j d' he hd' => ?_) trivial
      · obtain ⟨e, h1, h2⟩ := back i e' he
        rw [← h2]; exact hk' i e h1
      · obtain ⟨e, h1, h3⟩ := back i e' he
        have hj : j < e.length := by have := (List.getElem?_eq_some_iff.1 hd').1; omega
        exact ih i e e' j e[j] d' h1 he (List.getElem?_eq_getElem hj) hd' (hd i e j e[j] h1 (List.getElem?_eq_getElem hj))
  | agg ds ds' hl h2 ih =>
    intro v hv
    cases hv with
    | agg vs _ h0 h1 hd =>
      refine .agg vs ds' (h0.trans hl) h1 fun i d' hd' => ?_
      have hi : i < ds.length := by have := (List.getElem?_eq_some_iff.1 hd').1; omega
      exact ih i ds[i] d' (List.getElem?_eq_getElem hi) hd' (hd i _ (List.getElem?_eq_getElem hi))
  | tup ds ds' hl h2 ih =>
    intro v hv
    cases hv with
    | tup vs _ h0 hd =>
      refine .tup vs ds' (h0.trans hl) fun i d' hd' => ?_
      have hi : i < ds.length := by have := (List.getElem?_eq_some_iff.1 hd').1; omega
      exact ih i ds[i] d' (List.getElem?_eq_getElem hi) hd' (hd i _ (List.getElem?_eq_getElem hi))
theorem HCalls.weak {f : FuncId} {ds : List D} {Q : D → Store → Prop} (h : HCalls P f ds σ fun d s => ∃ d', Wk d d' ∧ Q d' s) : HCalls P f ds σ Q := by
  intro w0 M w vs hs hl hd
  refine (h w0 M w vs hs hl hd).mono ?_
  rintro e w' ⟨v, M', d, s, r1, r2, r3, r4, d', r5, r6⟩
  exact ⟨v, M', d', s, r1, r2, r3, r5.goes r4, r6⟩
theorem Ret.weak {f : FuncId} {ds : List D} {r : D} (h : ∀ σ, HCalls P f ds σ fun d s => Wk d r ∧ s = σ) : Ret P f ds r := by
  intro σ Q hq
  refine HCalls.weak ((h σ).mono ?_)
  rintro d s ⟨h1, rfl⟩
  exact ⟨r, h1, hq⟩
theorem Wk.two {a b a' b' : D} (h1 : Wk a a') (h2 : Wk b b') : Wk (.tup [a, b]) (.tup [a', b']) := by
  refine .tup _ _ rfl fun i d d' hd hd' => ?_
  match i with
  | 0 => simp at hd hd'; subst hd hd'; exact h1
  | 1 => simp at hd hd'; subst hd hd'; exact h2
  | n + 2 => simp at hd
theorem RetL.ro {f : FuncId} {ds : List D} {es : List (List D)} (h : RetL P f ds es) : Ret P f ds (.list es .ro) := Ret.weak fun σ => h σ (fun d s => Wk d (.list es .ro) ∧ s = σ) fun tok => ⟨.list es tok, rfl⟩

/-- Lists of the same things, told with words on appending or without. -/
theorem Wk.maps {α β : Type} (f : α → List D) (g : β → List D) (p : α → β) (l : List α) (tok : Tok) (hl : ∀ a, (f a).length = (g (p a)).length) (h : ∀ a (j : Nat) (d d' : D), (f a)[j]? = some d → (g (p a))[j]? = some d' → Wk d d') : Wk (.list (l.map f) tok) (.list ((l.map p).map g) .ro) := by
  refine .deep _ _ tok (by simp) (fun i e e' h1 h2 => ?_) (fun i e e' j d d' h1 h2 h3 h4 => ?_)
  · rw [List.getElem?_map] at h1
    rw [List.map_map, List.getElem?_map] at h2
    obtain ⟨a, ha, rfl⟩ := Option.map_eq_some_iff.1 h1
    rw [ha] at h2
    simp at h2; rw [← h2]; exact hl a
  · rw [List.getElem?_map] at h1
    rw [List.map_map, List.getElem?_map] at h2
    obtain ⟨a, ha, rfl⟩ := Option.map_eq_some_iff.1 h1
    rw [ha] at h2
    simp at h2
    rw [← h2] at h4
    exact h a j d d' h3 h4
end Go.HL
/- HL, part T: several lists that grow at once. -/
set_option linter.unusedVariables false
set_option linter.unusedSimpArgs false
namespace Go.HL
open Go.RowKit
variable {P : Program} {σ : Store}

/-- The block in which a list may still grow. -/
def Tok.blk : Tok → Option Nat
  | .own b _ _ => some b
  | _ => none
@[simp] theorem Tok.blk_nil : Tok.nil.blk = none := rfl
@[simp] theorem Tok.blk_full : Tok.full.blk = none := rfl
@[simp] theorem Tok.blk_ro : Tok.ro.blk = none := rfl
@[simp] theorem Tok.blk_own (b c k : Nat) : (Tok.own b c k).blk = some b := rfl
/-- A list that may grow, told of the store as it is: its spare room stands there, and is new. -/
inductive GrV (k : Nat) (σ : Store) : List (List D) → Tok → Store → Prop
  | nil (s : Store) : GrV k σ [] .nil s
  | full (es : List (List D)) (s : Store) : GrV k σ es .full s
  | own (es : List (List D)) (b c : Nat) (s : Store) (hb : σ b = none) (hs : s b = some (.spare es.length c k)) : GrV k σ es (.own b c k) s
/-- All stands as it stood, but for one block. -/
def But (b : Option Nat) (s s' : Store) : Prop := ∀ x o, b ≠ some x → s x = some o → s' x = some o
theorem But.refl (b : Option Nat) (s : Store) : But b s s := fun _ _ _ h => h
theorem But.set {s : Store} {b : Nat} (o : HObj) : But (some b) s (s.set b o) := fun x o' hn h => by
  rw [Store.set_ne _ _ _ _ (fun e => hn (by rw [e]))]; exact h
theorem But.new {s : Store} {b : Nat} (hb : s b = none) (r : Option Nat) (o : HObj) : But r s (s.set b o) := fun x o' hn h => by
  rw [Store.set_ne _ _ _ _ (fun e => by subst e; rw [hb] at h; cases h)]; exact h
theorem SLe.but {s s' : Store} (h : SLe s s') (r : Option Nat) : But r s s' := fun x o _ e => h x o e
theorem But.trans {r : Option Nat} {a b c : Store} (h : But r a b) (h' : But r b c) : But r a c := fun x o n e => h' x o n (h x o n e)
/-- A list stays what it is while other blocks are written. -/
theorem GrV.keep {k : Nat} {es : List (List D)} {tok : Tok} {s s' : Store} (h : GrV k σ es tok s) {r : Option Nat} (hb : But r s s') (hr : ∀ b, tok.blk = some b → r ≠ some b) : GrV k σ es tok s' := by
  cases h with
  | nil => exact .nil s'
  | full => exact .full es s'
  | own _ b c _ h1 h2 => exact .own es b c s' h1 (hb b _ (hr b rfl) h2)
theorem GrV.mono {k : Nat} {es : List (List D)} {tok : Tok} {s s' : Store} (h : GrV k σ es tok s) (hb : SLe s s') : GrV k σ es tok s' := h.keep (hb.but none) fun _ _ e => by cases e
/-- Its block is new, and is none of those that stand otherwise. -/
theorem GrV.blk {k : Nat} {es : List (List D)} {tok : Tok} {s : Store} (h : GrV k σ es tok s) {b : Nat} (e : tok.blk = some b) : σ b = none ∧ ∃ c, s b = some (.spare es.length c k) := by
  cases h with
  | nil => cases e
  | full => cases e
  | own _ b' c _ h1 h2 => simp at e; subst e; exact ⟨h1, c, h2⟩
theorem GrV.append {k : Nat} {es : List (List D)} {tok : Tok} {s : Store} (h : GrV k σ es tok s) (hs : SLe σ s) {E : TI} (hk : E.size = k) (xs : List (List D)) (h1 : (es.length + xs.length) * E.bytes ≤ 140737488355328) (h2 : es.length + xs.length ≤ 9223372036854775807)
    {K : D → Store → Prop} (hK : ∀ tok' s', SLe σ s' → But tok.blk s s' → (∀ b, tok'.blk = some b → tok.blk = some b ∨ s b = none) → GrV k σ (es ++ xs) tok' s' → K (.list (es ++ xs) tok') s') : appA false E xs (.list es tok) s K := by
  have new : ∀ (b c : Nat), s b = none → K (.list (es ++ xs) (.own b c E.size)) (s.set b (.spare (es.length + xs.length) c E.size)) := fun b c hb => by
    refine hK _ _ (hs.put (hs.none hb) _) (But.new hb _ _) (fun b' e => .inr ?_) ?_
    · simp at e; subst e; exact hb
    · rw [hk]; refine .own _ b c _ (hs.none hb) ?_
      rw [Store.set_same]; simp
  cases h with
  | nil =>
    rw [appA_nil]
    refine ⟨⟨h1, h2⟩, fun e => ?_, fun e b c hb hc => ?_⟩
    · subst e; exact hK _ _ hs (But.refl _ _) (fun b e => by cases e) (.nil s)
    · simpa using new b c hb
  | full _ =>
    rw [appA_full]
    refine ⟨⟨h1, h2⟩, fun e => ?_, fun e b c hb hc => ?_⟩
    · subst e
      have := hK .full s hs (But.refl _ _) (fun b e => by cases e)
      simp only [List.append_nil] at this
      exact this (.full es s)
    · exact new b c hb
  | own _ b c _ hb hsb =>
    rw [appA_own]
    refine ⟨⟨h1, h2⟩, ⟨hsb, hk.symm⟩, fun e => ?_, fun e b' c' hb' hc' => ?_⟩
    · refine hK _ _ (hs.put hb _) (But.set _) (fun b' e => .inl e) ?_
      refine .own _ b c _ hb ?_
      rw [Store.set_same]; simp
    · have := new b' c' hb'
      rw [hk] at this; exact this
theorem GrV.appendT {α : Type} {f : α → List D} {k : Nat} {l : List α} {tok : Tok} {s : Store} (h : GrV k σ (l.map f) tok s) (hs : SLe σ s) (xs : List α) {ds : List (List D)} {E : TI} {K : D → Store → Prop} (hds : ds = xs.map f) (hk : E.size = k)
    (h1 : (l.length + xs.length) * E.bytes ≤ 140737488355328) (h2 : l.length + xs.length ≤ 9223372036854775807)
    (hK : ∀ out tok' s', out = l ++ xs → SLe σ s' → But tok.blk s s' → (∀ b, tok'.blk = some b → tok.blk = some b ∨ s b = none) → GrV k σ (out.map f) tok' s' → K (.list (out.map f) tok') s') : appA false E ds (.list (l.map f) tok) s K := by
  subst hds
  refine h.append hs hk (xs.map f) (by simpa using h1) (by simpa using h2) ?_
  intro tok' s' g1 g2 g3 g4
  rw [← List.map_append] at g4 ⊢
  exact hK _ _ _ rfl g1 g2 g3 g4

/-! ### Several slices of one's own at once -/
/-- A slice of one's own, told of the store as it is: nil, or a block that is new. -/
inductive OwV {α : Type} (f : α → List D) (k : Nat) (σ : Store) (l : List α) : D → Option Nat → Store → Prop
  | nil (s : Store) (h : l = []) : OwV f k σ l (.list [] .nil) none s
  | cells (b c : Nat) (rest : List D) (s : Store) (hb : σ b = none) (hs : s b = some (.cells ((l.map f).flatten ++ rest))) (hc : l.length ≤ c) (hm : c ≤ 9223372036854775807) (hr : rest.length = (c - l.length) * k) : OwV f k σ l (.lit (.slice (some ⟨b, 0, none⟩) l.length c)) (some b) s
theorem OwV.keep {α : Type} {f : α → List D} {k : Nat} {l : List α} {d : D} {o : Option Nat} {s s' : Store} (h : OwV f k σ l d o s) {r : Option Nat} (hb : But r s s') (hr : ∀ b, o = some b → r ≠ some b) : OwV f k σ l d o s' := by
  cases h with
  | nil _ h => exact .nil s' h
  | cells b c rest _ h1 h2 h3 h4 h5 => exact .cells b c rest s' h1 (hb b _ (hr b rfl) h2) h3 h4 h5
theorem OwV.view {α : Type} {f : α → List D} {k : Nat} {l : List α} {d : D} {o : Option Nat} {s : Store} (h : OwV f k σ l d o s) : View f k s l d := by
  cases h with
  | nil _ h => subst h; exact .list .nil
  | cells b c rest _ _ h2 => exact .cells b c rest h2
theorem OwV.append {α : Type} {f : α → List D} {k : Nat} (hf : ∀ a, (f a).length = k) {s : Store} {l : List α} {d : D} {o : Option Nat} (ho : OwV f k σ l d o s) (hs : SLe σ s) {E : TI} {z : List D} (hk : E.size = k) (hz : E.zero = some z) (hzk : z.length = k) (xs : List α) {ds : List (List D)} (hds : ds = xs.map f)
    (h1 : (l.length + xs.length) * E.bytes ≤ 140737488355328) (h2 : l.length + xs.length ≤ 9223372036854775807)
    {K : D → Store → Prop} (hK : ∀ d' o' s', SLe σ s' → But o s s' → (∀ b, o' = some b → o = some b ∨ s b = none) → OwV f k σ (l ++ xs) d' o' s' → K d' s') : appA true E ds d s K := by
  subst hds
  cases ho with
  | nil _ h =>
    subst h
    rw [appA_lm]
    refine ⟨⟨by simpa using h1, by simpa using h2⟩, rfl, fun e => ?_, fun e z' hz' b c hb hc hm => ?_⟩
    · have : xs = [] := by simpa using e
      subst this
      exact hK _ none _ hs (But.refl _ _) (fun b e => by cases e) (.nil s rfl)
    · rw [hz] at hz'; injection hz' with hz'; subst hz'
      simp only [List.length_nil, Nat.zero_add, List.flatten_nil, List.nil_append, List.length_map] at hc ⊢
      refine hK _ (some b) _ (hs.put (hs.none hb) _) (But.new hb _ _) (fun b' e => .inr (by injection e with e; subst e; exact hb)) ?_
      exact .cells (f := f) (k := k) (l := xs) b c (zrep (c - xs.length) z) _ (hs.none hb) (Store.set_same _ _ _) hc hm (by rw [zrep_len, hzk])
  | cells b c rest _ hb e hc hm hr =>
    rw [appA_lit, e, appL_cells]
    have hfl : ((l.map f).flatten ++ rest).length = c * k := by
      rw [List.length_append, flat_length f k hf, hr, ← Nat.add_mul]; congr 1; omega
    refine ⟨⟨hc, by rw [hk, hfl]; omega, by simpa using h1, by simpa using h2⟩, fun h3 => ?_, fun h3 z' hz' b' c' hb' h4 h5 => ?_⟩
    · simp only [List.length_map] at h3 ⊢
      have hl : (l ++ xs).length = l.length + xs.length := List.length_append
      have key : spl ((l.map f).flatten ++ rest) (0 + l.length * E.size) (xs.map f).flatten = ((l ++ xs).map f).flatten ++ rest.drop (xs.length * k) := by
        rw [hk, Nat.zero_add]
        unfold spl
        rw [flat_take f k hf rest l l.length (Nat.le_refl _), List.take_length, flat_length f k hf]
        have e1 : l.length * k = (l.map f).flatten.length := by rw [flat_length f k hf]
        rw [e1, ← List.drop_drop, List.drop_left' rfl]
        simp
      rw [key, ← hl]
      refine hK _ (some b) _ (hs.put hb _) (But.set _) (fun b' e => .inl e) ?_
      refine .cells (f := f) (k := k) (l := l ++ xs) b c (rest.drop (xs.length * k)) _ hb (Store.set_same _ _ _) (by omega) hm ?_
      rw [List.length_drop, hr, hl, ← Nat.mul_sub_right_distrib]; congr 1; omega
    · rw [hz] at hz'; injection hz' with hz'; subst hz'
      simp only [List.length_map] at h3 h4 ⊢
      have hl : (l ++ xs).length = l.length + xs.length := List.length_append
      have key : ((((l.map f).flatten ++ rest).drop 0).take (l.length * E.size) ++ (xs.map f).flatten ++ zrep (c' - (l.length + xs.length)) z) = ((l ++ xs).map f).flatten ++ zrep (c' - (l ++ xs).length) z := by
        rw [hk, List.drop_zero, flat_take f k hf rest l l.length (Nat.le_refl _), List.take_length, hl]
        simp
      rw [key, ← hl]
      refine hK _ (some b') _ (hs.put (hs.none hb') _) (But.new hb' _ _) (fun b2 e => .inr (by injection e with e; subst e; exact hb')) ?_
      exact .cells (f := f) (k := k) (l := l ++ xs) b' c' _ _ (hs.none hb') (Store.set_same _ _ _) (by rw [hl]; exact h4) h5 (by rw [zrep_len, hzk])
theorem OwV.sized {α : Type} {f : α → List D} {k : Nat} {l : List α} {d : D} {o : Option Nat} {s : Store} (h : OwV f k σ l d o s) : SizedAs d k := by
  cases h with
  | nil _ h => simp
  | cells b c rest => trivial
theorem OwV.capOk {α : Type} {f : α → List D} {k : Nat} {l : List α} {d : D} {o : Option Nat} {s : Store} (h : OwV f k σ l d o s) : capOk d = true := by
  cases h with
  | nil _ h => rfl
  | cells b c rest _ _ _ hc => simpa using hc
theorem OwV.mono {α : Type} {f : α → List D} {k : Nat} {l : List α} {d : D} {o : Option Nat} {s s' : Store} (h : OwV f k σ l d o s) (hs : SLe s s') : OwV f k σ l d o s' := h.keep (hs.but none) fun _ _ e => by cases e
theorem OwV.low {α : Type} {f : α → List D} {k : Nat} {σ' : Store} {l : List α} {d : D} {o : Option Nat} {s : Store} (h : OwV f k σ' l d o s) (hs : SLe σ σ') : OwV f k σ l d o s := by
  cases h with
  | nil _ h => exact .nil s h
  | cells b c rest _ h1 h2 h3 h4 h5 => exact .cells b c rest s (hs.none h1) h2 h3 h4 h5
theorem OwV.new {α : Type} {f : α → List D} {k : Nat} {l : List α} {d : D} {o : Option Nat} {s : Store} (h : OwV f k σ l d o s) {b : Nat} (e : o = some b) : σ b = none ∧ s b ≠ none := by
  cases h with
  | nil => cases e
  | cells b' c rest _ h1 h2 => injection e with e; subst e; exact ⟨h1, by rw [h2]; simp⟩
theorem OwV.word {α : Type} {f : α → List D} {k : Nat} {l : List α} {d : D} {o : Option Nat} {s : Store} (h : OwV f k σ l d o s) : (∃ b n c, d = .lit (.slice (some ⟨b, 0, none⟩) n c)) ∨ d = .list [] .nil := by
  cases h with
  | nil => exact .inr rfl
  | cells b c => exact .inl ⟨b, _, c, rfl⟩
theorem OwV.src {α : Type} {f : α → List D} {k : Nat} (hf : ∀ a, (f a).length = k) {l : List α} {d : D} {o : Option Nat} {s : Store} (h : OwV f k σ l d o s) : srcE k d s = some (l.map f) := by
  cases h with
  | nil _ h => subst h; rfl
  | cells b c rest _ h1 h2 h3 h4 h5 =>
    rw [srcE_lit, h2, srcB_cells, if_pos (by rw [List.length_append, flat_length f k hf]; omega), List.drop_zero, chunk_flat f k hf]
end Go.HL
/- HL, part U: slices within an answer told as lists; words on appending forgotten in the store, too. -/
set_option linter.unusedVariables false
set_option linter.unusedSimpArgs false
namespace Go.HL
open Go.RowKit
variable {P : Program} {σ : Store}

/-- One block less. -/
def Store.less (σ : Store) (b : Nat) : Store := fun x => if x = b then none else σ x
@[simp] theorem Store.less_same (σ : Store) (b : Nat) : (σ.less b) b = none := by simp [Store.less]
theorem Store.less_ne (σ : Store) (b x : Nat) (h : x ≠ b) : (σ.less b) x = σ x := by simp [Store.less, h]
theorem Store.less_le (σ : Store) (b : Nat) : SLe (σ.less b) σ := fun x o e => by
  unfold Store.less at e
  split at e
  · cases e
  · exact e
theorem SLe.less {σ s : Store} (h : SLe σ s) {b : Nat} (hb : σ b = Option.none) : SLe σ (s.less b) := fun x o e => by
  rw [Store.less_ne _ _ _ (fun hx => by subst hx; rw [hb] at e; cases e)]; exact h x o e
theorem But.less {s : Store} {b : Nat} : But (some b) s (s.less b) := fun x o hn h => by
  rw [Store.less_ne _ _ _ (fun e => hn (by rw [e]))]; exact h

theorem FrzA.goes {w0 w : World} {M : Mem} (h : Sim w0 M σ w) {σ' : Store} (hs : SLe σ' σ) {ds : List D} {i : Nat} {x x' : D} (hi : ds[i]? = some x) (hf : Frz σ' σ x x') {v : Value} (hv : Den M v (.agg ds)) : ∃ M', MLe M M' ∧ Sim w0 M' σ' w ∧ Den M' v (.agg (ds.set i x')) := by
  cases hv with
  | agg vs _ h0 h1 hd =>
    obtain ⟨M', hM, hS, hD⟩ := hf.goes h hs (hd i x hi)
    refine ⟨M', hM, hS, .agg vs _ (by simpa using h0) h1 fun j d hj => ?_⟩
    by_cases hij : i = j
    · subst hij
      have hl : i < ds.length := (List.getElem?_eq_some_iff.1 hi).1
      rw [List.getElem?_set_self hl] at hj
      injection hj with hj; subst hj
      exact hD
    · rw [List.getElem?_set_ne hij] at hj
      exact (hd j d hj).mono hM
theorem HCalls.freezeA {f : FuncId} {as : List D} {Q : D → Store → Prop} (h : HCalls P f as σ fun d s => ∃ ds i x x' s', d = .agg ds ∧ ds[i]? = some x ∧ SLe s' s ∧ (x' = x ∨ Frz s' s x x') ∧ Q (.agg (ds.set i x')) s') : HCalls P f as σ Q :=
  fun w0 M w vs hs hl hd => (h w0 M w vs hs hl hd).mono fun e w' ⟨v, M', d, s, r1, r2, r3, r4, ds, i, x, x', s', e1, e2, e3, e4, e5⟩ => by
    subst e1
    rcases e4 with rfl | e4
    · refine ⟨v, M', _, s', r1, r2, r3.drop e3, ?_, e5⟩
      have : ds.set i x' = ds := by
        apply List.ext_getElem?
        intro j
        by_cases hij : i = j
        · subst hij; rw [List.getElem?_set_self (List.getElem?_eq_some_iff.1 e2).1, e2]
        · rw [List.getElem?_set_ne hij]
      rw [this]; exact r4
    · obtain ⟨M'', hM, hS, hD⟩ := FrzA.goes r3 e3 e2 e4 r4
      exact ⟨v, M'', _, s', r1, r2.trans hM, hS, hD, e5⟩
/-- What is one's own, told as a list: its block is given up. -/
theorem OwV.frz {α : Type} {f : α → List D} {k : Nat} (hf : ∀ a, (f a).length = k) {l : List α} {d : D} {o : Option Nat} {s : Store} (h : OwV f k σ l d o s) (hs : SLe σ s) :
    ∃ s' tok, SLe s' s ∧ SLe σ s' ∧ But o s s' ∧ (.list (l.map f) tok = d ∨ Frz s' s d (.list (l.map f) tok)) ∧ (tok = .ro ∨ tok = .nil) := by
  cases h with
  | nil _ h => subst h; exact ⟨s, .nil, SLe.refl _, hs, But.refl _ _, .inl rfl, .inr rfl⟩
  | cells b c rest _ hb e hc hm hr =>
    refine ⟨s.less b, .ro, Store.less_le _ _, hs.less hb, But.less, .inr ?_, .inl rfl⟩
    have := Frz.slice (s' := s.less b) (s := s) b 0 l.length c k ((l.map f).flatten ++ rest) e (by simp) (by rw [List.length_append, flat_length f k hf]; omega) hc hm
    rwa [List.drop_zero, chunk_flat f k hf] at this

/-! ### Words on appending, forgotten in the store -/
inductive OWk : HObj → HObj → Prop
  | refl (o : HObj) : OWk o o
  | cells (ds ds' : List D) (hl : ds.length = ds'.length) (h : ∀ (i : Nat) (d d' : D), ds[i]? = some d → ds'[i]? = some d' → Wk d d') : OWk (.cells ds) (.cells ds')
def SWk (s s' : Store) : Prop := ∀ b o', s' b = some o' → ∃ o, s b = some o ∧ OWk o o'
theorem SLe.swk {s s' : Store} (h : SLe s' s) : SWk s s' := fun b o e => ⟨o, h b o e, .refl o⟩
theorem SWk.refl (s : Store) : SWk s s := (SLe.refl s).swk
theorem Wk.trans {a b c : D} (h : Wk a b) (h' : Wk b c) : ∀ {M : Mem} {v : Value}, Den M v a → Den M v c := fun hv => h'.goes (h.goes hv)
theorem Sim.weak {w0 w : World} {M : Mem} {s' : Store} (h : Sim w0 M σ w) (hw : SWk σ s') : Sim w0 M s' w := by
  refine ⟨h.base, fun b o e => ?_, h.mem, fun b ds e => ?_, fun b n c k e => ?_, fun b es e => ?_⟩
  · obtain ⟨o', e', -⟩ := hw b o e; exact h.low b o' e'
  · obtain ⟨o', e', hk⟩ := hw b _ e
    cases hk with
    | refl => exact h.cells b ds e'
    | cells ds0 _ hl hk =>
      obtain ⟨cs, t, h1, h2, h3, h4, h5⟩ := h.cells b ds0 e'
      refine ⟨cs, t, h1, h2.trans hl, h3, fun i d hd => ?_, h5⟩
      have hi : i < ds0.length := by have := (List.getElem?_eq_some_iff.1 hd).1; omega
      exact (hk i _ d (List.getElem?_eq_getElem hi) hd).goes (h4 i _ (List.getElem?_eq_getElem hi))
  · obtain ⟨o', e', hk⟩ := hw b _ e
    cases hk with
    | refl => exact h.spare b n c k e'
  · obtain ⟨o', e', hk⟩ := hw b _ e
    cases hk with
    | refl => exact h.maps b es e'
theorem HCalls.weakS {f : FuncId} {ds : List D} {Q : D → Store → Prop} (h : HCalls P f ds σ fun d s => ∃ d' s', Wk d d' ∧ SWk s s' ∧ Q d' s') : HCalls P f ds σ Q := by
  intro w0 M w vs hs hl hd
  refine (h w0 M w vs hs hl hd).mono ?_
  rintro e w' ⟨v, M', d, s, r1, r2, r3, r4, d', s', r5, r6, r7⟩
  exact ⟨v, M', d', s', r1, r2, r3.weak r6, r5.goes r4, r7⟩
theorem Sim.retell {w0 w : World} {M : Mem} {s : Store} (h : Sim w0 M s w) {x : Nat} {ds ds' : List D} (e : s x = some (.cells ds)) (hl : ds.length = ds'.length) (hd : ∀ cs t, w.heap[x]? = some (.cells cs t (0, 0)) → ∀ i d, ds'[i]? = some d → Den M (cs.getD i undef) d) : Sim w0 M (s.set x (.cells ds')) w := by
  have hn : ∀ b o, (s.set x (.cells ds')) b = some o → b ≠ x → s b = some o := fun b o e hne => by rwa [Store.set_ne _ _ _ _ hne] at e
  refine ⟨h.base, fun b o e' => ?_, h.mem, fun b ds2 e' => ?_, fun b n c k e' => ?_, fun b es e' => ?_⟩
  · by_cases hb : b = x
    · subst hb; exact h.low b _ e
    · exact h.low b o (hn b o e' hb)
  · by_cases hb : b = x
    · subst hb
      rw [Store.set_same] at e'
      injection e' with e'; injection e' with e'; subst e'
      obtain ⟨cs, t, h1, h2, h3, h4, h5⟩ := h.cells b ds e
      exact ⟨cs, t, h1, h2.trans hl, h3, hd cs t h1, h5⟩
    · exact h.cells b ds2 (hn b _ e' hb)
  · by_cases hb : b = x
    · subst hb; rw [Store.set_same] at e'; cases e'
    · exact h.spare b n c k (hn b _ e' hb)
  · by_cases hb : b = x
    · subst hb; rw [Store.set_same] at e'; cases e'
    · exact h.maps b es (hn b _ e' hb)
/-- A slice in a block, told as a list: its own block is given up. -/
theorem HCalls.freezeS {f : FuncId} {as : List D} {Q : D → Store → Prop} (h : HCalls P f as σ fun d s => Q d s ∨ ∃ x ds i y y' s1, s1 x = some (.cells ds) ∧ ds[i]? = some y ∧ SLe s1 s ∧ Frz s1 s y y' ∧ Q d (s1.set x (.cells (ds.set i y')))) : HCalls P f as σ Q :=
  fun w0 M w vs hs hl hd => (h w0 M w vs hs hl hd).mono fun e w' ⟨v, M', d, s, r1, r2, r3, r4, r5⟩ => by
    rcases r5 with r5 | ⟨x, ds, i, y, y', s1, e1, e2, e3, e4, e5⟩
    · exact ⟨v, M', d, s, r1, r2, r3, r4, r5⟩
    · obtain ⟨cs, t, h1, h2, h3, h4, h5⟩ := r3.cells x ds (e3 _ _ e1)
      obtain ⟨M'', hM, hS, hD⟩ := e4.goes r3 e3 (h4 i y e2)
      refine ⟨v, M'', d, _, r1, r2.trans hM, hS.retell e1 (by simp) (fun cs' t' h1' j z hz => ?_), r4.mono hM, e5⟩
      rw [h1] at h1'
      injection h1' with h1'
      injection h1' with h1'
      subst h1'
      by_cases hij : i = j
      · subst hij
        rw [List.getElem?_set_self (List.getElem?_eq_some_iff.1 e2).1] at hz
        injection hz with hz; subst hz; exact hD
      · rw [List.getElem?_set_ne hij] at hz
        exact (h4 j z hz).mono hM
/-- What is handed over, told with less. -/
theorem HCalls.preS {f : FuncId} {ds : List D} {Q : D → Store → Prop} {s' : Store} (hw : SWk σ s') (h : HCalls P f ds s' Q) : HCalls P f ds σ Q := fun w0 M w vs hs hl hd => h w0 M w vs (hs.weak hw) hl hd
end Go.HL
/- HL, part V: what is asked behind may be asked for less; a stop between two parts of the code. -/
set_option linter.unusedVariables false
set_option linter.unusedSimpArgs false
namespace Go.HL
open Go.RowKit
variable {P : Program} {lm : Bool}

theorem guardD_mono {all : List Oper} {g : Option (Nat × Bool)} {e : Env} {a b a' b' : Prop} (ha : a → a') (hb : b → b') (h : guardD all g e a b) : guardD all g e a' b' := by
  unfold guardD at h ⊢
  split at h
  · exact ha h
  · rename_i j want
    split at h
    · exact hb h
    · rename_i t _
      split at h
      · cases want with
        | true => exact ⟨fun e => ha (h.1 e), fun e => hb (h.2 e)⟩
        | false => exact ⟨fun e => ha (h.1 e), fun e => hb (h.2 e)⟩
      · exact hb h
      · exact h.elim
theorem hops_mono {all : List Oper} {N N' : Env → Store → Prop} (hN : ∀ e s, N e s → N' e s) : ∀ (l : List Oper) (e : Env) (s : Store), hops P lm all l e s N → hops P lm all l e s N' := by
  intro l
  induction l with
  | nil => intro e s h; exact hN e s h
  | cons o r ih => intro e s h; exact guardD_mono (hop_mono fun d s' => ih _ _) (ih _ _) h
theorem hAny_mono {ops : Array Oper} {N N' : Env → Store → Prop} (hN : ∀ e s, N e s → N' e s) : ∀ (n : Nat) (l : Array Bool) (e : Env) (s : Store), hAny P lm ops n l e s N → hAny P lm ops n l e s N' := by
  intro n
  induction n with
  | zero => intro l e s h; exact ⟨h.1, hN e s h.2⟩
  | succ n ih =>
    intro l e s h
    refine ⟨fun hr => hN _ _ (h.1 hr), fun i hi => ?_⟩
    have := h.2 i hi
    split at this
    · exact ih _ _ _ this
    · exact guardD_mono (hop_mono fun d s' => ih _ _ _) (ih _ _ _) this
theorem hseq_mono {σ0 : Store} {all : List Oper} {N N' : Env → Store → Prop} (hN : ∀ e s, N e s → N' e s) : ∀ (l : List Oper) (e : Env) (s : Store), hseq P lm σ0 all l e s N → hseq P lm σ0 all l e s N' := by
  intro l
  induction l with
  | nil => intro e s h; exact hN e s h
  | cons o r ih => intro e s h; exact guardD_mono (stepD_mono fun d s' => ih _ _) (ih _ _) h
theorem hdraw_mono {ops : Array Oper} {N N' : Env → Store → Prop} (hN : ∀ e s, N e s → N' e s) {e : Env} {s : Store} (h : hdraw P lm ops e s N) : hdraw P lm ops e s N' := by
  rcases h with h | ⟨h1, c, σ0, h2, h3, h4⟩
  · exact .inl (hAny_mono hN _ _ _ _ h)
  · exact .inr ⟨h1, c, σ0, h2, h3, hseq_mono (fun e s ⟨σ1, h5, h6⟩ => ⟨σ1, h5, hseq_mono hN _ _ _ h6⟩) _ _ _ h4⟩
structure KLe (K K' : Kont) : Prop where
  n : ∀ e s, K.n e s → K'.n e s
  r : ∀ e s, K.r e s → K'.r e s
  x : ∀ i e s, K.x i e s → K'.x i e s
theorem hwp_mono : ∀ (c : Code) {K K' : Kont} {e : Env} {s : Store}, KLe K K' → hwp P lm c K e s → hwp P lm c K' e s := by
  intro c
  induction c with
  | skip => intro K K' e s hk h; exact hk.n _ _ h
  | region i ops d =>
    intro K K' e s hk h
    cases d with
    | true => exact hdraw_mono hk.n h
    | false => exact hops_mono hk.n _ _ _ h
  | seq a b iha ihb =>
    intro K K' e s hk h
    have h : hwp P lm a { K with n := fun e s => hwp P lm b K e s } e s := h
    exact iha (K := { K with n := fun e s => hwp P lm b K e s }) (K' := { K' with n := fun e s => hwp P lm b K' e s }) ⟨fun e s => ihb hk, hk.r, hk.x⟩ h
  | cond c a b iha ihb =>
    intro K K' e s hk h
    unfold hwp at h ⊢
    unfold hcond at h ⊢
    split at h
    · exact ⟨fun e => iha hk (h.1 e), fun e => ihb hk (h.2 e)⟩
    · exact h.elim
  | block i c ih =>
    intro K K' e s hk h
    have h : hwp P lm c { K with x := fun j e s => if j = i then K.n e s else K.x j e s } e s := h
    refine ih (K := { K with x := fun j e s => if j = i then K.n e s else K.x j e s }) (K' := { K' with x := fun j e s => if j = i then K'.n e s else K'.x j e s }) ⟨hk.n, hk.r, fun j e s h => ?_⟩ h
    simp only at h ⊢
    split at h
    · rename_i hj; rw [if_pos hj]; exact hk.n _ _ h
    · rename_i hj; rw [if_neg hj]; exact hk.x _ _ _ h
  | loop c ih =>
    intro K K' e s hk h
    obtain ⟨I, h0, h1⟩ := h
    exact ⟨I, h0, fun n e s hI => ih (K := { K with n := fun e' s' => ∃ m s'', m < n ∧ SLe s'' s' ∧ I m e' s'' }) (K' := { K' with n := fun e' s' => ∃ m s'', m < n ∧ SLe s'' s' ∧ I m e' s'' }) ⟨fun e s h => h, hk.r, hk.x⟩ (h1 n e s hI)⟩
  | exit i => intro K K' e s hk h; exact hk.x _ _ _ h
  | ret => intro K K' e s hk h; exact hk.r _ _ h
  | _ => intro K K' e s hk h; exact h.elim
/-- Behind a loop: what is asked there is told apart. -/
theorem hloop_cut (i0 : Nat) (J : Env → Store → Prop) {c : Code} {K : Kont} {e : Env} {s : Store} (h1 : hloop (@bx _ ⟨hwp P lm c⟩) (@bx _ ⟨{ K with x := fun j e s => if j = i0 then J e s else K.x j e s }⟩) e s)
    (h2 : ∀ e s, J e s → (@bx _ ⟨K⟩ : Kont).x i0 e s) : hloop (@bx _ ⟨hwp P lm c⟩) (@bx _ ⟨K⟩) e s := by
  obtain ⟨I, h3, h4⟩ := h1
  refine ⟨I, h3, fun n e s hI => ?_⟩
  have h5 : hwp P lm c { K with n := fun e' s' => ∃ m s'', m < n ∧ SLe s'' s' ∧ I m e' s'', x := fun j e s => if j = i0 then J e s else K.x j e s } e s := h4 n e s hI
  show hwp P lm c { K with n := fun e' s' => ∃ m s'', m < n ∧ SLe s'' s' ∧ I m e' s'' } e s
  refine hwp_mono c (K := { K with n := fun e' s' => ∃ m s'', m < n ∧ SLe s'' s' ∧ I m e' s'', x := fun j e s => if j = i0 then J e s else K.x j e s }) ⟨fun e s h => h, fun e s h => h, fun i e s h => ?_⟩ h5
  have h6 : if i = i0 then J e s else K.x i e s := h
  by_cases hi : i = i0
  · rw [if_pos hi] at h6; subst hi; exact h2 e s h6
  · rw [if_neg hi] at h6; exact h6
/-- Behind a choice. -/
theorem hcond_cut (J : Env → Store → Prop) {d : D} {a b : Code} {K : Kont} {e : Env} {s : Store} (h1 : hcond d (@bx _ ⟨hwp P lm a (@bx _ ⟨{ K with n := J }⟩) e s⟩) (@bx _ ⟨hwp P lm b (@bx _ ⟨{ K with n := J }⟩) e s⟩))
    (h2 : ∀ e s, J e s → (@bx _ ⟨K⟩ : Kont).n e s) : hcond d (@bx _ ⟨hwp P lm a (@bx _ ⟨K⟩) e s⟩) (@bx _ ⟨hwp P lm b (@bx _ ⟨K⟩) e s⟩) := by
  have key : ∀ c, hwp P lm c (@bx _ ⟨{ K with n := J }⟩) e s → hwp P lm c (@bx _ ⟨K⟩) e s := fun c => hwp_mono c (K := { K with n := J }) (K' := K) ⟨h2, fun e s h => h, fun i e s h => h⟩
  unfold hcond at h1 ⊢
  split at h1
  · exact ⟨fun e => key _ (h1.1 e), fun e => key _ (h1.2 e)⟩
  · exact h1.elim
/-- What is new may be turned. -/
theorem But.low {σ s s' : Store} {b : Nat} (hB : But (some b) s s') (h : SLe σ s) (hb : σ b = none) : SLe σ s' := fun x o e => hB x o (fun hx => by injection hx with hx; subst hx; rw [hb] at e; cases e) (h x o e)
theorem But.lowO {σ s s' : Store} {r : Option Nat} (hB : But r s s') (h : SLe σ s) (hb : ∀ b, r = some b → σ b = none) : SLe σ s' := fun x o e => hB x o (fun hx => by rw [hb x hx] at e; cases e) (h x o e)
/-- What is handed over, told with less. -/
theorem HCalls.preW {σ : Store} {f : FuncId} {ds ds' : List D} {Q : D → Store → Prop} (hl : ds.length = ds'.length) (h : ∀ (i : Nat) (d d' : D), ds[i]? = some d → ds'[i]? = some d' → Wk d d') (hc : HCalls P f ds' σ Q) : HCalls P f ds σ Q :=
  fun w0 M w vs hs hn hd => hc w0 M w vs hs (hn.trans hl) fun i d' hi => by
    have hlt : i < ds.length := by have := (List.getElem?_eq_some_iff.1 hi).1; omega
    exact (h i _ d' (List.getElem?_eq_getElem hlt) hi).goes (hd i _ (List.getElem?_eq_getElem hlt))
theorem HCalls.pre1 {σ : Store} {f : FuncId} {a a' : D} {Q : D → Store → Prop} (h1 : Wk a a') (hc : HCalls P f [a'] σ Q) : HCalls P f [a] σ Q :=
  HCalls.preW (ds' := [a']) rfl (fun i d d' hd hd' => by
    match i with
    | 0 => simp at hd hd'; subst hd hd'; exact h1
    | n + 1 => simp at hd) hc
theorem HCalls.pre2 {σ : Store} {f : FuncId} {a b a' b' : D} {Q : D → Store → Prop} (h1 : Wk a a') (h2 : Wk b b') (hc : HCalls P f [a', b'] σ Q) : HCalls P f [a, b] σ Q :=
  HCalls.preW (ds' := [a', b']) rfl (fun i d d' hd hd' => by
    match i with
    | 0 => simp at hd hd'; subst hd hd'; exact h1
    | 1 => simp at hd hd'; subst hd hd'; exact h2
    | n + 2 => simp at hd) hc
/-- One block alone. -/
def Store.one (b : Nat) (o : HObj) : Store := fun x => if x = b then some o else none
@[simp] theorem Store.one_at (b : Nat) (o : HObj) : Store.one b o b = some o := by simp [Store.one]
theorem Store.one_le {b : Nat} {o : HObj} {s : Store} (h : s b = some o) : SLe (Store.one b o) s := fun x o' e => by
  unfold Store.one at e
  split at e
  · rename_i hx; injection e with e; subst e hx; exact h
  · cases e
theorem Store.one_put {b c : Nat} {o o' : HObj} {s : Store} (h : s b = some o) (hne : b ≠ c) : SLe (Store.one b o) (s.set c o') := Store.one_le (by rw [Store.set_ne _ _ _ _ hne]; exact h)
end Go.HL
/- HL, part W: a number that is read, set and added to in one step (sync/atomic), of one goroutine. -/
set_option linter.unusedVariables false
set_option linter.unusedSimpArgs false
namespace Go.HL
open Go.RowKit
variable {P : Program} {w0 w : World} {M : Mem} {σ : Store}

theorem cell_of (h : Sim w0 M σ w) {b o : Nat} {ds : List D} {v : Value} (e : σ b = some (.cells ds)) (hx : ds[o]? = some (.lit v)) : w.cell? ⟨b, o, none⟩ = some v ∧ w.frozen? ⟨b, o, none⟩ = false := by
  obtain ⟨cs, t, hb, hs, h1, h2, _⟩ := h.cells b ds e
  have hl : o < ds.length := (List.getElem?_eq_some_iff.1 hx).1
  have hd := den_lit_inv (h2 o _ hx)
  refine ⟨?_, by simp [World.frozen?, hb]⟩
  rw [cell_of_row w b o cs t (0, 0) hb, ← hd]
  have : o < cs.size := by omega
  simp [Array.getD, this]
theorem setCell_of (P : Program) (h : Sim w0 M σ w) {b o : Nat} {ds : List D} {u v : Value} (e : σ b = some (.cells ds)) (hx : ds[o]? = some (.lit u)) (h1 : v.oneCell' = true) : Sim w0 M (σ.set b (.cells (spl ds o [.lit v]))) (w.setCell ⟨b, o, none⟩ v) := by
  have hl : o < ds.length := (List.getElem?_eq_some_iff.1 hx).1
  obtain ⟨w', hr, hs⟩ := h.write (P := P) e o [v] [.lit v] rfl (by simp; omega) (by simpa using h1) (fun i x hi => by
    cases i with
    | zero => simp at hi; subst hi; exact .lit v
    | succ i => simp at hi)
  obtain ⟨cs, t, hb, hsz, -⟩ := h.cells b ds e
  rw [run_storeCells_at P b o t [v] 0 cs w hb (by simp; omega) (by simpa using h1)] at hr
  have : w' = w.setCell ⟨b, o, none⟩ v := by
    injection hr with _ hr
    rw [← hr, setCell_eq_setRow w b o cs t (0, 0) v hb]
    congr 1
    simp only [Nat.add_zero, List.length_singleton]
    apply Array.ext'
    have ho : o < cs.toList.length := by simp; omega
    rw [Array.toList_setIfInBounds, List.set_eq_take_append_cons_drop, if_pos ho]
    simp
  rw [← this]; exact hs
structure ExtOf (P : Program) (f : FuncId) (fn : Func) : Prop where
  at_ : P.funcs[f]? = some fn
  name : (fn.name == "runtime.NumGoroutine") = false
  none : fn.body.isNone = true
  next : Extern.findNext fn = Option.none
theorem args2 {vs : Array Value} {a b : Value} (h : vs.size = 2) (hd : ∀ (i : Nat) (d : D), [D.lit a, D.lit b][i]? = some d → Den M (vs.getD i undef) d) : vs = #[a, b] := by
  have h0 := den_lit_inv (hd 0 _ rfl)
  have h1 := den_lit_inv (hd 1 _ rfl)
  apply Array.ext
  · simpa using h
  · intro i hi _
    match i with
    | 0 => simpa [Array.getD, hi] using h0
    | 1 => simpa [Array.getD, hi] using h1
    | n + 2 => omega
theorem args1 {vs : Array Value} {a : Value} (h : vs.size = 1) (hd : ∀ (i : Nat) (d : D), [D.lit a][i]? = some d → Den M (vs.getD i undef) d) : vs = #[a] := by
  have h0 := den_lit_inv (hd 0 _ rfl)
  apply Array.ext
  · simpa using h
  · intro i hi _
    match i with
    | 0 => simpa [Array.getD, hi] using h0
    | n + 1 => omega
theorem HExt.load {f : FuncId} {fn : Func} (hf : ExtOf P f fn) (he : Extern.find fn = some (Extern.Atomic.loadT (.int .i64))) {b o : Nat} {ds : List D} {x : Int} (e : σ b = some (.cells ds)) (hx : ds[o]? = some (.int .i64 x)) {K : D → Store → Prop} (hk : K (.int .i64 x) σ) :
    HExt P f [.ptr b o] σ K := by
  intro w0 M w vs hs hl hd
  obtain rfl := args1 hl hd
  obtain ⟨hc, -⟩ := cell_of hs e hx
  exact ⟨_, w, M, _, σ, run_call_load hf.at_ hf.name hf.none hf.next .i64 he hc, MLe.refl M, hs, .lit _, hk⟩
theorem HExt.store {f : FuncId} {fn : Func} (hf : ExtOf P f fn) (he : Extern.find fn = some Extern.Atomic.storeT) {b o : Nat} {ds : List D} {u : Value} {y : Int} (e : σ b = some (.cells ds)) (hx : ds[o]? = some (.lit u)) {K : D → Store → Prop} (hk : K (.tup []) (σ.set b (.cells (spl ds o [.int .i64 y])))) :
    HExt P f [.ptr b o, .int .i64 y] σ K := by
  intro w0 M w vs hs hl hd
  obtain rfl := args2 hl hd
  obtain ⟨hc, hz⟩ := cell_of hs e hx
  exact ⟨_, _, M, _, _, run_call_store hf.at_ hf.name hf.none hf.next he hc hz, MLe.refl M, setCell_of P hs e hx rfl, .tup #[] [] rfl (fun i d h => by simp at h), hk⟩
theorem HExt.add {f : FuncId} {fn : Func} (hf : ExtOf P f fn) (he : Extern.find fn = some (Extern.Atomic.update (Op.intArith .add) .i64 true)) {b o : Nat} {ds : List D} {x y : Int} (e : σ b = some (.cells ds)) (hx : ds[o]? = some (.int .i64 x)) {K : D → Store → Prop}
    (hk : K (.int .i64 (IntKind.i64.wrap (x + y))) (σ.set b (.cells (spl ds o [.int .i64 (IntKind.i64.wrap (x + y))])))) : HExt P f [.ptr b o, .int .i64 y] σ K := by
  intro w0 M w vs hs hl hd
  obtain rfl := args2 hl hd
  obtain ⟨hc, hz⟩ := cell_of hs e hx
  exact ⟨_, _, M, _, _, run_call_add hf.at_ hf.name hf.none hf.next .i64 he hc hz (s := IntKind.i64.wrap (x + y)) rfl, MLe.refl M, setCell_of P hs e hx rfl, .lit _, hk⟩
end Go.HL
