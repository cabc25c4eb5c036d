/- HL, part Q: what a row's arguments read as, told plainly; and the row. -/
import Derived.Test.YtdbbbhjajkobaabHLP
import Derived.ProofKit
set_option linter.unusedVariables false
set_option linter.unusedSimpArgs false
namespace Go.HL
open Go.RowKit
variable {P : Program}

/-- All memory at the call, told as what stays. -/
def memOf (W : World) : Mem := fun b o => match W.cell? ⟨b, o, none⟩ with
  | some v => if v.oneCell' then some v else none
  | none => none
theorem memOf_some {W : World} {b o : Nat} {v : Value} (h : W.cell? ⟨b, o, none⟩ = some v) (h1 : v.oneCell' = true) : memOf W b o = some v := by simp only [memOf, h, h1, if_true]
theorem memOf_inv {W : World} {b o : Nat} {v : Value} (h : memOf W b o = some v) : W.cell? ⟨b, o, none⟩ = some v ∧ v.oneCell' = true := by
  unfold memOf at h
  split at h
  · rename_i u hu
    split at h
    · rename_i h1; injection h with h; subst h; exact ⟨hu, h1⟩
    · cases h
  · cases h
theorem sim_start (W : World) : Sim W (memOf W) (fun _ => none) W where
  base := Below.refl _ _
  low := fun b o e => by cases e
  mem := fun b o v e => memOf_inv e
  cells := fun b ds e => by cases e
  spare := fun b n c k e => by cases e
  maps := fun b es e => by cases e

structure CellsDen (M : Mem) (cs : List Value) (ds : List D) : Prop where
  len : cs.length = ds.length
  one : ∀ v ∈ cs, v.oneCell' = true
  den : ∀ (i : Nat) (v : Value) (d : D), cs[i]? = some v → ds[i]? = some d → Den M v d
theorem CellsDen.single {M : Mem} {v : Value} {d : D} (h1 : v.oneCell' = true) (h : Den M v d) : CellsDen M [v] [d] :=
  ⟨rfl, by simpa using h1, fun i u x hu hx => by
    cases i with
    | zero => simp at hu hx; subst hu hx; exact h
    | succ i => simp at hu⟩
theorem CellsDen.append {M : Mem} {a b : List Value} {x y : List D} (h : CellsDen M a x) (k : CellsDen M b y) : CellsDen M (a ++ b) (x ++ y) :=
  ⟨by simp [h.len, k.len], fun v hv => by rcases List.mem_append.1 hv with hv | hv; exact h.one v hv; exact k.one v hv, fun i u d hu hd => by
    by_cases hi : i < a.length
    · rw [List.getElem?_append_left hi] at hu
      rw [List.getElem?_append_left (by rw [← h.len]; exact hi)] at hd
      exact h.den i u d hu hd
    · rw [List.getElem?_append_right (by omega)] at hu
      rw [List.getElem?_append_right (by rw [← h.len]; omega), ← h.len] at hd
      exact k.den _ u d hu hd⟩

/-- What reads so is such a thing's cells. -/
def Cod (P : Program) (n : Nat) (t : TypeId) {α : Type} (en : α → List D) (good : α → Prop) : Prop :=
  ∀ (H : Type) (ec : TypeId × Value → H) (W : World) (fuel : Nat) (cs : List Value) (x : DataW H × List MemPlace), fuel ≤ n → DataW.trod ec P W 0 (fun _ => true) true fuel t cs = some x → ∃ a, good a ∧ CellsDen (memOf W) cs (en a)
theorem Cod.int {n : Nat} {t : TypeId} {k : IntKind} (ht : P.underlying t = some (.int k)) : Cod P n t (fun i : Int => [D.int k i]) (fun i => (Lit.int k i).wf = true) := by
  intro H ec W fuel cs x _ h
  obtain ⟨i, rfl, -, hw⟩ := DataW.trod_int ht h
  exact ⟨i, hw, .single rfl (.lit _)⟩
theorem Cod.str {n : Nat} {t : TypeId} (ht : P.underlying t = some .string) : Cod P n t (fun s : ByteArray => [D.str s]) (fun s => s.size ≤ maxLen) := by
  intro H ec W fuel cs x _ h
  obtain ⟨s, rfl, -, hw⟩ := DataW.trod_string ht h
  exact ⟨s, hw, .single rfl (.lit _)⟩
theorem Cod.bool {n : Nat} {t : TypeId} (ht : P.underlying t = some .bool) : Cod P n t (fun b : Bool => [D.bool b]) (fun _ => True) := by
  intro H ec W fuel cs x _ h
  obtain ⟨b, rfl⟩ : ∃ b, cs = [.bool b] := by
    cases fuel with
    | zero => simp [DataW.trod] at h
    | succ n =>
      unfold DataW.trod at h
      rw [ht] at h
      split at h <;> simp_all
  exact ⟨b, trivial, .single rfl (.lit _)⟩
theorem cells?_get {w : World} {a : Addr} {n : Nat} {cs : List Value} (h : w.cells? 0 a n = some cs) : cs.length = n ∧ ∀ j v, cs[j]? = some v → w.cell? (a.add j) = some v := by
  unfold World.cells? at h
  rw [if_pos (Nat.zero_le _)] at h
  have hl := mapM_some_length h
  refine ⟨by simpa using hl, fun j v hj => ?_⟩
  have hjn : j < n := by have := (List.getElem?_eq_some_iff.1 hj).1; rw [hl] at this; simpa using this
  rw [← hj]
  exact mapM_some_get h j j (by simp [hjn])
theorem Cod.slice {n : Nat} {t e : TypeId} {k : Nat} {α : Type} {en : α → List D} {good : α → Prop} (ht : P.underlying t = some (.slice e)) (hk : P.cellsOf e = k) (h0 : 0 < k) (hen : ∀ a, (en a).length = k) (he : Cod P n e en good) :
    Cod P (n + 1) t (fun l : List α => [D.list (l.map en) .ro]) (fun l => l.length ≤ maxLen ∧ ∀ a ∈ l, good a) := by
  intro H ec W fuel cs x hf h
  rcases DataW.trod_slice ht h with ⟨rfl, -⟩ | ⟨a, len, cap, elems, rest, m, rfl, rfl, -, -, hlc, hcap, hle, hel, -, -⟩
  · exact ⟨[], ⟨by simp, by simp⟩, .single rfl (.list none 0 0 k 0 0 [] .ro (fun _ _ => undef) rfl (by simp) (by simp) (by simp) (by simp) (by simp) (by simp) trivial)⟩
  · rw [hk] at hel
    have one : ∀ i, i < len → ∃ a' cs', good a' ∧ W.cells? 0 (a.add (i * k)) k = some cs' ∧ CellsDen (memOf W) cs' (en a') := by
      intro i hi
      have h1 := hel i hi
      rw [List.getElem?_eq_getElem (by omega)] at h1
      obtain ⟨cs', h2, h3⟩ := Option.bind_eq_some_iff.1 h1
      obtain ⟨a', g, hd⟩ := he H ec W m cs' _ (by omega) h3
      exact ⟨a', cs', g, h2, hd⟩
    by_cases hlen : len = 0
    · subst hlen
      refine ⟨[], ⟨by simp, by simp⟩, .single rfl (.list (some a) 0 cap k 0 0 [] .ro (fun _ _ => undef) rfl (by simp) (by simpa [maxLen] using hcap) (by simp) (by simp) (by simp) (by simp) trivial)⟩
    · obtain ⟨g, hg⟩ : ∃ g : Nat → α × List Value, ∀ i, i < len → good (g i).1 ∧ W.cells? 0 (a.add (i * k)) k = some (g i).2 ∧ CellsDen (memOf W) (g i).2 (en (g i).1) := by
        have : ∀ i, ∃ p : α × List Value, i < len → good p.1 ∧ W.cells? 0 (a.add (i * k)) k = some p.2 ∧ CellsDen (memOf W) p.2 (en p.1) := by
          intro i
          by_cases hi : i < len
          · obtain ⟨a', cs', h1, h2, h3⟩ := one i hi
            exact ⟨(a', cs'), fun _ => ⟨h1, h2, h3⟩⟩
          · obtain ⟨a', cs', -⟩ := one 0 (by omega)
            exact ⟨(a', cs'), fun h => absurd h hi⟩
        exact ⟨fun i => (this i).choose, fun i hi => (this i).choose_spec hi⟩
      have hsp : a.spot = none := by
        obtain ⟨-, h2, h3⟩ := hg 0 (by omega)
        obtain ⟨l1, l2⟩ := cells?_get h2
        have := l2 0 ((g 0).2[0]'(by omega)) (List.getElem?_eq_getElem (by omega))
        unfold World.cell? at this
        split at this
        · split at this
          · cases this
          · rename_i hs; cases hsp : a.spot <;> simp_all [Addr.add]
        · cases this
      obtain ⟨b, o, sp⟩ := a
      subst hsp
      have hlenm : ((List.range len).map fun i => (g i).1).length = len := by simp
      refine ⟨(List.range len).map fun i => (g i).1, ⟨by simp; omega, ?_⟩, .single rfl ?_⟩
      · intro a' ha'
        obtain ⟨i, hi, rfl⟩ := List.mem_map.1 ha'
        exact (hg i (by simpa using hi)).1
      · refine .list (some ⟨b, o, none⟩) len cap k b o _ .ro (fun i j => (g i).2.getD j undef) (by simp) hlc (by simpa [maxLen] using hcap) (fun _ => rfl) ?_ ?_ ?_ trivial
        · intro i e' he'
          rw [List.getElem?_map, List.getElem?_map] at he'
          obtain ⟨y, hy, rfl⟩ := Option.map_eq_some_iff.1 he'
          exact hen y
        · intro i j hi hj
          obtain ⟨-, h2, h3⟩ := hg i hi
          obtain ⟨l1, l2⟩ := cells?_get h2
          have hjl : j < (g i).2.length := by omega
          have := l2 j _ (List.getElem?_eq_getElem hjl)
          rw [List.getD_eq_getElem?_getD, List.getElem?_eq_getElem hjl]
          refine memOf_some ?_ (h3.one _ (List.getElem_mem hjl))
          rw [addr_add, addr_add] at this
          rw [Option.getD_some]
          exact this
        · intro i e' j d he' hd
          rw [List.getElem?_map, List.getElem?_map] at he'
          obtain ⟨y, hy, rfl⟩ := Option.map_eq_some_iff.1 he'
          obtain ⟨z, hz, rfl⟩ := Option.map_eq_some_iff.1 hy
          have hi : i < len := by have := (List.getElem?_eq_some_iff.1 hz).1; simpa using this
          have hzi : z = i := by rw [List.getElem?_range hi] at hz; injection hz with hz; exact hz.symm
          subst hzi
          obtain ⟨-, h2, h3⟩ := hg z hi
          have hjl : j < (g z).2.length := by have := (List.getElem?_eq_some_iff.1 hd).1; rw [h3.len]; exact this
          rw [List.getD_eq_getElem?_getD, List.getElem?_eq_getElem hjl]
          exact h3.den j _ _ (List.getElem?_eq_getElem hjl) hd

/-- A struct's fields, from a place on. -/
inductive Flds (P : Program) (n : Nat) : List (TypeId × Nat × Nat) → Nat → (α : Type) → (α → List D) → (α → Prop) → Prop
  | nil (o : Nat) : Flds P n [] o Unit (fun _ => []) (fun _ => True)
  | cons {t : TypeId} {o k : Nat} {rest : List (TypeId × Nat × Nat)} {α β : Type} {en : α → List D} {good : α → Prop} {enR : β → List D} {goodR : β → Prop} (hk : ∀ a, (en a).length = k) (h : Cod P n t en good) (r : Flds P n rest (o + k) β enR goodR) :
      Flds P n ((t, o, k) :: rest) o (α × β) (fun p => en p.1 ++ enR p.2) (fun p => good p.1 ∧ goodR p.2)
theorem Flds.told {n : Nat} {l : List (TypeId × Nat × Nat)} {o : Nat} {α : Type} {en : α → List D} {good : α → Prop} (h : Flds P n l o α en good) {H : Type} {ec : TypeId × Value → H} {W : World} {cs : List Value} {m : Nat} (hm : m ≤ n)
    (hs : ∀ (i : Nat) (t : TypeId) (o k : Nat), l[i]? = some (t, o, k) → ∃ x, DataW.trod ec P W 0 (fun _ => true) true m t ((cs.drop o).take k) = some x) (htot : cs.length = o + (l.map (·.2.2)).sum) : ∃ a, good a ∧ CellsDen (memOf W) (cs.drop o) (en a) := by
  induction h with
  | nil o =>
    refine ⟨(), trivial, ?_⟩
    rw [List.drop_eq_nil_of_le (by simp at htot; omega)]
    exact ⟨rfl, by simp, by simp⟩
  | @cons t o k rest α β en good enR goodR hk h r ih =>
    obtain ⟨x, hx⟩ := hs 0 t o k rfl
    obtain ⟨a, ga, ha⟩ := h H ec W m _ x hm hx
    obtain ⟨b, gb, hb⟩ := ih (fun i t' o' k' hi => hs (i + 1) t' o' k' (by simpa using hi)) (by simp at htot; omega)
    refine ⟨(a, b), ⟨ga, gb⟩, ?_⟩
    have : cs.drop o = (cs.drop o).take k ++ cs.drop (o + k) := by rw [← List.drop_drop, List.take_append_drop]
    rw [this]
    exact ha.append hb
theorem Cod.struct {n : Nat} {t : TypeId} {fs : Array Field} (ht : P.underlying t = some (.struct fs)) {l : List (TypeId × Nat × Nat)} (hl : fs.toList.map (fun f => (f.type, f.offset, P.cellsOf f.type)) = l) {α : Type} {en : α → List D} {good : α → Prop} (h : Flds P n l 0 α en good) (hc : P.cellsOf t = (l.map (·.2.2)).sum) : Cod P (n + 1) t en good := by
  intro H ec W fuel cs x hf hx
  obtain ⟨xs, m, rfl, -, hlen, hxl, hget⟩ := DataW.trod_struct ht hx
  have := h.told (ec := ec) (W := W) (cs := cs) (m := m) (by omega) (fun i t' o' k' hi => by
    rw [← hl, List.getElem?_map] at hi
    obtain ⟨f, hf', e⟩ := Option.map_eq_some_iff.1 hi
    simp only [Prod.mk.injEq] at e
    obtain ⟨rfl, rfl, rfl⟩ := e
    rw [Array.getElem?_toList] at hf'
    have hi' : i < fs.size := (Array.getElem?_eq_some_iff.1 hf').1
    refine ⟨xs[i]'(by omega), ?_⟩
    rw [hget i f hf']
    exact List.getElem?_eq_getElem (by omega)) (by rw [hlen, hc]; simp)
  simpa using this
theorem Cod.map {n : Nat} {t : TypeId} {α β : Type} {en : α → List D} {good : α → Prop} {en' : β → List D} {good' : β → Prop} (h : Cod P n t en good) (g : α → β) (he : ∀ a, en' (g a) = en a) (hg : ∀ a, good a → good' (g a)) : Cod P n t en' good' := by
  intro H ec W fuel cs x hf hx
  obtain ⟨a, ga, ha⟩ := h H ec W fuel cs x hf hx
  exact ⟨g a, hg a ga, by rw [he]; exact ha⟩

/-! ### The row: it returns true, and what it was handed reads as it did -/
open Go.ChangeShapes Go.WideShapes
theorem trodAll_stays {H : Type} {ec : TypeId × Value → H} (hl : laidOutB P = true) {W W' : World} (hb : Below W.heap.size W W') {sp : Nat → Bool} : ∀ (ts : List TypeId) (vs : List Value) (ds : List (DataW H)) (ps : List MemPlace), (∀ t ∈ ts, P.readableRec t = true ∧ t < P.types.size) →
    DataW.TrodAll ec P W 0 (fun _ => true) true ts vs ds ps → (∀ x ∈ ps, x.block < W.heap.size) → (∀ x ∈ ps, sp x.block = true) → DataW.TrodAll ec P W' 0 sp true ts vs ds ps := by
  intro ts
  induction ts with
  | nil =>
    intro vs ds ps _ h _ _
    cases vs <;> cases ds <;> simp [DataW.TrodAll] at h ⊢
    exact h
  | cons t ts ih =>
    intro vs ds ps hr h hlt hsp
    cases vs with
    | nil => simp [DataW.TrodAll] at h
    | cons v vs => cases ds with
      | nil => simp [DataW.TrodAll] at h
      | cons d ds =>
        obtain ⟨p, q, h1, h2, rfl⟩ := h
        have hr1 := hr t (by simp)
        exact ⟨p, q, WideElems.Trod_stays hl hr1.1 hr1.2 h1 (fun x hx => hb.same (hlt x (by simp [hx]))) (fun x hx => hsp x (by simp [hx])), ih vs ds q (fun t ht => hr t (by simp [ht])) h2 (fun x hx => hlt x (by simp [hx])) (fun x hx => hsp x (by simp [hx])), rfl⟩
theorem trodAll_append' {H : Type} {ec : TypeId × Value → H} {w : World} {b : Nat} {sp : Nat → Bool} {hd : Bool} : ∀ {ts us : List TypeId} {vs xs : List Value} {ds es : List (DataW H)} {p q : List MemPlace}, DataW.TrodAll ec P w b sp hd ts vs ds p → DataW.TrodAll ec P w b sp hd us xs es q → DataW.TrodAll ec P w b sp hd (ts ++ us) (vs ++ xs) (ds ++ es) (p ++ q) := by
  intro ts
  induction ts with
  | nil =>
    intro us vs xs ds es p q h1 h2
    obtain ⟨rfl, rfl, rfl⟩ := trodAll_nil h1
    exact h2
  | cons t ts ih =>
    intro us vs xs ds es p q h1 h2
    obtain ⟨v, vs', d, ds', p1, q1, rfl, rfl, rfl, hd1, hr1⟩ := trodAll_cons h1
    exact ⟨p1, q1 ++ q, hd1, ih hr1 h2, by simp⟩
theorem row_calls {H : Type} {ec : TypeId × Value → H} (hl : laidOutB P = true) {f : FuncId} {fn : Func} {s : ChangeSpec} {rt : TypeId} (hvars : s.vars = []) (hres : fn.resultTypes = #[rt]) (hrt : P.underlying rt = some .bool) (hread : ∀ t ∈ fn.params.toList, P.readableRec t = true ∧ t < P.types.size)
    {apart fresh handsOn again : Bool} {W : World} {args : Array Value} {ds gs : List (DataW H)} {before : List MemPlace} (hW : DataW.Whole ec P fn.params.toList s.vars apart W args.toList ds gs before)
    (hsp : s.fn H (ds ++ gs) = { results := [.lit (.bool true)], args := ds }) {xs : List D} (hlen : args.size = xs.length) (hden : ∀ (i : Nat) (d : D), xs[i]? = some d → Den (memOf W) (args.getD i undef) d)
    (hc : HCalls P f xs (fun _ => none) fun d _ => d = .bool true) : Calls P f args W fun e W' => ∃ v, e = .returned v ∧ s.post ec P fn apart fresh handsOn again W args v W' := by
  refine (hc W (memOf W) W args (sim_start W) hlen hden).mono ?_
  rintro e W' ⟨v, M', d, σ', rfl, -, hs, hv, rfl⟩
  have := den_lit_inv hv; subst this
  refine ⟨_, rfl, ?_⟩
  have hW' := hW
  obtain ⟨p, q, hA, hV, rfl, hfz, hnd⟩ := hW
  rw [hvars] at hV
  obtain ⟨rfl, rfl⟩ := trodVars_none hV
  simp only [List.append_nil] at hW'
  have hsp' : s.fn H (ds ++ []) = { results := [.lit (.bool true)], args := ds } := hsp
  have hb : Below W.heap.size W W' := hs.base
  have hlt : ∀ x ∈ p, x.block < W.heap.size := fun x hx => by simpa using hW'.lt x hx
  have hr : ∀ (b : Nat) (sp : Nat → Bool) (hd : Bool), DataW.TrodAll ec P W' b sp hd fn.resultTypes.toList ((Value.bool true).resultList fn.resultTypes.size) [.lit (.bool true)] [] := fun b sp hd => by
    rw [hres]; exact trodAll_mk1 (shut_bool hrt true)
  have ha : ∀ sp : Nat → Bool, (∀ x ∈ p, sp x.block = true) → DataW.TrodAll ec P W' 0 sp true fn.params.toList args.toList ds p := fun sp hsp => trodAll_stays hl hb _ _ _ _ hread hA hlt hsp
  have hold : ∀ x ∈ p, (fun b => decide (b < W.heap.size)) x.block = true := fun x hx => by simpa using hlt x hx
  have hv : ∀ sp : Nat → Bool, DataW.TrodVars ec P W' sp s.vars [] [] := fun sp => by rw [hvars]; rfl
  refine ⟨ds, [], p, [], p, [], hW', ?_, ?_, ?_, World.keptBut_mono (fun x hx => ⟨hx, .inr (.inl hx)⟩) (hb.frame _), fun _ => ?_⟩
  · rw [hsp']; exact hr _ _ _
  · rw [hsp']; exact ha _ hold
  · rw [hsp']; exact hv _
  · refine ⟨ok_one hres rfl (okWide_bool_mk hrt true), [.lit (.bool true)] ++ ds, [], [] ++ p, ⟨[] ++ p, [], ?_, hv _, by simp, ?_, ?_⟩, ?_⟩
    · exact trodAll_append' (hr _ _ _) (ha _ (fun _ _ => rfl))
    · intro b off hx
      rw [hb.frozen (hlt (.cell b off) (by simpa using hx))]
      exact hfz b off (by simpa using hx)
    · intro h1
      have := hnd h1
      simpa using this
    · intro x hx _
      simpa using hx
end Go.HL
