/- HL, part B: what is known of a type, and the plain words for operations. -/
import Derived.Test.YtdbbbhjajkobaabHLA
set_option linter.unusedVariables false
set_option linter.unusedSimpArgs false
namespace Go.HL
open Go.RowKit

/-! ### Types -/
inductive KK where
  | int (k : IntKind)
  | bool
  | str
  | slice (e : TypeId)
  | map (k e : TypeId)
  | struct
  | array (n : Nat) (e : TypeId)
  | ptr (e : TypeId)
  | iface
  | other
def kkOf : TypeDesc → KK
  | .int k => .int k
  | .bool => .bool
  | .string => .str
  | .slice e => .slice e
  | .map k e => .map k e
  | .struct _ => .struct
  | .array n e => .array n e
  | .pointer e => .ptr e
  | .interface _ => .iface
  | _ => .other
def KK.agg : KK → Bool
  | .struct | .array _ _ => true
  | _ => false
/-- What is known of a type: its kind, cells, bytes, zero value (by cells), and, of a struct, of each field: its offset, its cells, is it a struct or an array. -/
structure TI where
  kk : KK
  size : Nat
  bytes : Nat
  zero : Option (List D)
  flds : List (Nat × Nat × Bool)

def zD1 (v : Value) : D :=
  match v with
  | .slice none 0 0 => .list [] .nil
  | v => .lit v
def zD (v : Value) : D :=
  match v with
  | .agg cs => if cs.toList.all (·.oneCell') then .agg (cs.toList.map zD1) else .lit v
  | v => zD1 v
def aggD (P : Program) (t : TypeId) : Bool := match P.underlying t with
  | some d => (kkOf d).agg
  | none => false
def fldsOf (P : Program) (d : TypeDesc) : List (Nat × Nat × Bool) :=
  match d with
  | .struct fs => fs.toList.map fun f => (f.offset, if (P.underlying f.type).isSome then ((P.info? f.type).map (·.size)).getD 0 else 0, aggD P f.type)
  | _ => []
def ti (P : Program) (t : TypeId) : Option TI :=
  match P.info? t, P.underlying t with
  | some i, some d => some { kk := kkOf d, size := i.size, bytes := i.bytes, zero := i.zero.map (fun z => z.cells.toList.map zD1), flds := fldsOf P d }
  | _, _ => none

theorem ti_some {P : Program} {t : TypeId} {T : TI} (h : ti P t = some T) : ∃ i d, P.info? t = some i ∧ P.underlying t = some d ∧ T.kk = kkOf d ∧ T.size = i.size ∧ T.bytes = i.bytes ∧
    T.zero = i.zero.map (fun z => z.cells.toList.map zD1) ∧ T.flds = fldsOf P d := by
  unfold ti at h
  split at h
  · rename_i i d hi hd
    injection h with h
    subst h
    exact ⟨i, d, hi, hd, rfl, rfl, rfl, rfl, rfl⟩
  · cases h

variable {P : Program} {w0 w : World} {M : Mem} {σ : Store}

theorem run_sizeOf {t : TypeId} {i : TypeInfo} (hi : P.info? t = some i) (w : World) : (sizeOf t).run P w = .ok i.size w := by simp [sizeOf, typeInfo, hi]
theorem run_zeroValue {t : TypeId} {i : TypeInfo} (hi : P.info? t = some i) {z : Value} (hz : i.zero = some z) (w : World) : (zeroValue t).run P w = .ok z w := by simp [zeroValue, typeInfo, hi, hz]
theorem run_isAgg {t : TypeId} {d : TypeDesc} (hd : P.underlying t = some d) (w : World) : (isAgg t).run P w = .ok (kkOf d).agg w := by
  cases d <;> simp [isAgg, run_underlying hd, kkOf, KK.agg]

/-! ### Cells that are read -/
/-- From address a on memory holds these. -/
def Holds (M : Mem) (w : World) (b o : Nat) (ds : List D) : Prop :=
  ∃ cv : Nat → Value, ∀ j, j < ds.length → w.cell? ⟨b, o + j, none⟩ = some (cv j) ∧ (cv j).oneCell' = true ∧ ∀ d, ds[j]? = some d → Den M (cv j) d
theorem Holds.drop {b o : Nat} {ds : List D} (h : Holds M w b o ds) (n : Nat) : Holds M w b (o + n) (ds.drop n) := by
  obtain ⟨cv, h⟩ := h
  refine ⟨fun j => cv (n + j), fun j hj => ?_⟩
  rw [List.length_drop] at hj
  have := h (n + j) (by omega)
  rw [← Nat.add_assoc] at this
  refine ⟨this.1, this.2.1, fun d hd => this.2.2 d ?_⟩
  rw [List.getElem?_drop] at hd
  exact hd
theorem Holds.take {b o : Nat} {ds : List D} (h : Holds M w b o ds) (n : Nat) : Holds M w b o (ds.take n) := by
  obtain ⟨cv, h⟩ := h
  refine ⟨cv, fun j hj => ?_⟩
  rw [List.length_take] at hj
  obtain ⟨h1, h2, h3⟩ := h j (by omega)
  refine ⟨h1, h2, fun d hd => h3 d ?_⟩
  rw [List.getElem?_take] at hd
  split at hd
  · exact hd
  · cases hd
theorem holds_cells (h : Sim w0 M σ w) {b : Nat} {ds : List D} (e : σ b = some (.cells ds)) : Holds M w b 0 ds := by
  obtain ⟨cs, t, hb, hs, h1, h2, _⟩ := h.cells b ds e
  refine ⟨fun j => cs.getD j undef, fun j hj => ⟨?_, h1 j (by omega), fun d hd => h2 j d hd⟩⟩
  rw [Nat.zero_add, cell_of_row w b j cs t (0, 0) hb]
  have : j < cs.size := by omega
  simp [Array.getD, this]
theorem holds_iptr (h : Sim w0 M σ w) {v : Value} {ds : List D} (e : Den M v (.iptr ds)) : ∃ b o, v = .pointer (some ⟨b, o, none⟩) ∧ Holds M w b o ds := by
  cases e with
  | iptr b o _ cv hm hd => exact ⟨b, o, rfl, cv, fun j hj => ⟨(h.mem _ _ _ (hm j hj)).1, (h.mem _ _ _ (hm j hj)).2, fun d hj' => hd j d hj'⟩⟩

theorem addr_add (b o j : Nat) : (⟨b, o, none⟩ : Addr).add j = ⟨b, o + j, none⟩ := by
  unfold Addr.add
  split
  · rename_i h; subst h; rfl
  · rfl

theorem Holds.loadCells {b o : Nat} {ds : List D} (h : Holds M w b o ds) :
    ∃ vs : Array Value, (loadCells ⟨b, o, none⟩ ds.length).run P w = .ok vs w ∧ vs.size = ds.length ∧ (∀ i, i < vs.size → (vs.getD i undef).oneCell' = true) ∧ ∀ i d, ds[i]? = some d → Den M (vs.getD i undef) d := by
  obtain ⟨cv, h⟩ := h
  have hl : ((List.range ds.length).map cv).length = ds.length := by simp
  have hr := run_loadCells_list (P := P) w ⟨b, o, none⟩ ((List.range ds.length).map cv) (fun j v hv => by
    rcases Nat.lt_or_ge j ds.length with h' | h'
    · rw [List.getElem?_map, List.getElem?_range h'] at hv
      simp at hv; subst hv
      rw [addr_add]
      exact (h j h').1
    · rw [List.getElem?_eq_none (by simp; omega)] at hv; cases hv)
  rw [hl] at hr
  have hg : ∀ i, i < ds.length → (((List.range ds.length).map cv).toArray).getD i undef = cv i := fun i hi => by simp [Array.getD, hi]
  refine ⟨_, hr, by simp, fun i hi => ?_, fun i d hd => ?_⟩
  · have hi' : i < ds.length := by simpa using hi
    rw [hg i hi']; exact (h i hi').2.1
  · have hi' : i < ds.length := (List.getElem?_eq_some_iff.1 hd).1
    rw [hg i hi']; exact (h i hi').2.2 d hd
end Go.HL

namespace Go.HL
open Go.RowKit
variable {P : Program} {w0 w : World} {M : Mem} {σ : Store}

/-! ### What an operation comes to -/
def Goes (P : Program) (s : Sem Value) (w0 : World) (M : Mem) (w : World) (K : D → Store → Prop) : Prop :=
  ∃ v w' M' d σ', s.run P w = .ok v w' ∧ MLe M M' ∧ Sim w0 M' σ' w' ∧ Den M' v d ∧ K d σ'
theorem Goes.pure {s : Sem Value} {K : D → Store → Prop} (h : Sim w0 M σ w) {v : Value} {d : D} (hr : s.run P w = .ok v w) (hd : Den M v d) (hk : K d σ) : Goes P s w0 M w K :=
  ⟨v, w, M, d, σ, hr, MLe.refl M, h, hd, hk⟩

/-- The cells of a value. -/
def cellsD : D → List D
  | .agg ds => ds
  | d => [d]
def oneD : D → Bool
  | .lit v => v.oneCell'
  | .list _ _ => true
  | .iptr _ => true
  | _ => false
/-- May it stand in memory? -/
def fitD : D → Bool
  | .agg _ => true
  | d => oneD d
def valD (agg : Bool) (ds : List D) : D := if agg then .agg ds else ds.headD .any

theorem cells_one {v : Value} (h : v.oneCell' = true) : v.cells = #[v] := by cases v <;> simp_all [Value.cells, Value.oneCell']
theorem den_one {v : Value} {d : D} (h : Den M v d) (hd : oneD d = true) : v.oneCell' = true := by
  cases h <;> simp_all [oneD, Value.oneCell']
theorem den_cells {v : Value} {d : D} (h : Den M v d) (hd : fitD d = true) :
    v.cells.size = (cellsD d).length ∧ (∀ i, i < v.cells.size → (v.cells.getD i undef).oneCell' = true) ∧ ∀ i x, (cellsD d)[i]? = some x → Den M (v.cells.getD i undef) x := by
  cases d with
  | agg ds =>
    cases h with
    | agg vs _ h0 h1 h2 => exact ⟨h0, h1, h2⟩
  | _ =>
    have h1 := den_one h (by simpa [fitD] using hd)
    rw [cells_one h1]
    refine ⟨rfl, fun i hi => ?_, fun i x hx => ?_⟩
    · simp at hi; subst hi; simpa using h1
    · cases i with
      | zero => simp [cellsD] at hx; subst hx; simpa using h
      | succ i => simp [cellsD] at hx

/-! load -/
def hload (T : TI) (d : D) (σ : Store) (K : D → Prop) : Prop :=
  match d with
  | .lit (.pointer (some ⟨b, o, none⟩)) =>
    match σ b with
    | some (.cells ds) => (o + T.size ≤ ds.length ∧ (T.kk.agg = true ∨ T.size = 1)) ∧ K (valD T.kk.agg ((ds.drop o).take T.size))
    | _ => False
  | .iptr ds => (T.size ≤ ds.length ∧ (T.kk.agg = true ∨ T.size = 1)) ∧ K (valD T.kk.agg (ds.take T.size))
  | _ => False

theorem holds_load (h : Sim w0 M σ w) {t : TypeId} {T : TI} (hT : ti P t = some T) {b o : Nat} {ds : List D} (hh : Holds M w b o ds) (hl : ds.length = T.size) (h1 : T.kk.agg = true ∨ T.size = 1)
    {K : D → Store → Prop} (hk : K (valD T.kk.agg ds) σ) : Goes P (Instr.loadAt t (.pointer (some ⟨b, o, none⟩))) w0 M w K := by
  obtain ⟨i, d, hi, hd, e1, e2, -, -, -⟩ := ti_some hT
  by_cases ha : (kkOf d).agg = true
  · obtain ⟨vs, hr, hs, hone, hden⟩ := hh.loadCells (P := P)
    have hv : valD T.kk.agg ds = .agg ds := by rw [e1]; simp [valD, ha]
    refine Goes.pure h (v := .agg vs) (d := .agg ds) ?_ (.agg vs ds hs hone hden) (by rw [← hv]; exact hk)
    rw [hl, e2] at hr
    simp [Instr.loadAt, Instr.sureAddr, loadVar, run_isAgg hd, ha, run_sizeOf hi, hr]
  · have hf : (kkOf d).agg = false := by simpa using ha
    obtain ⟨cv, hc⟩ := hh
    have hl1 : ds.length = 1 := by
      rcases h1 with h1 | h1
      · rw [e1, hf] at h1; cases h1
      · omega
    obtain ⟨h2, h3, h4⟩ := hc 0 (by omega)
    match ds, hl1 with
    | [x], _ =>
      have hv : valD T.kk.agg [x] = x := by rw [e1, hf]; rfl
      refine Goes.pure h (v := cv 0) (d := x) ?_ (h4 x rfl) (by rw [← hv]; exact hk)
      simp only [Nat.add_zero] at h2
      simp [Instr.loadAt, Instr.sureAddr, loadVar, run_isAgg hd, hf, h2]

theorem load_goes (h : Sim w0 M σ w) {t : TypeId} {T : TI} (hT : ti P t = some T) {v : Value} {d : D} (hv : Den M v d) {K : D → Store → Prop} (hk : hload T d σ (K · σ)) : Goes P (Instr.loadAt t v) w0 M w K := by
  unfold hload at hk
  split at hk
  · rename_i b o
    cases hv
    split at hk
    · rename_i ds e
      obtain ⟨⟨h1, h2⟩, hk⟩ := hk
      have hh := ((holds_cells h e).drop o).take T.size
      rw [Nat.zero_add] at hh
      exact holds_load h hT hh (by simp; omega) h2 hk
    · exact hk.elim
  · rename_i ds
    obtain ⟨b, o, rfl, hh⟩ := holds_iptr h hv
    obtain ⟨⟨h1, h2⟩, hk⟩ := hk
    exact holds_load h hT (hh.take T.size) (by simp; omega) h2 hk
  · exact hk.elim

/-! alloc, box -/
theorem alloc_cells_goes (h : Sim w0 M σ w) (t : TypeId) (v : Value) (d : D) (hv : Den M v d) (hd : fitD d = true) {K : D → Store → Prop} {s : Sem Value}
    (hr : s.run P w = .ok (.pointer (some ⟨w.heap.size, 0, none⟩)) (w.alloc (.cells v.cells t))) (hk : ∀ b, σ b = none → K (.ptr b 0) (σ.set b (.cells (cellsD d)))) : Goes P s w0 M w K := by
  obtain ⟨h1, h2, h3⟩ := den_cells hv hd
  exact ⟨_, _, M, _, _, hr, MLe.refl M, h.alloc_cells v.cells t (cellsD d) h1 h2 h3, .lit _, hk _ h.fresh⟩

theorem box_goes (h : Sim w0 M σ w) (t : TypeId) {v : Value} {d : D} (hv : Den M v d) (hd : fitD d = true) {K : D → Store → Prop}
    (hk : ∀ b, σ b = none → K (.ptr b 0) (σ.set b (.cells (cellsD d)))) : Goes P (Instr.box t v) w0 M w K :=
  alloc_cells_goes h t v d hv hd (by simp [Instr.box, newVar, newRow]) hk

theorem den_zD1 (v : Value) : Den M v (zD1 v) := by
  unfold zD1
  split
  · exact .list none 0 0 0 0 0 [] .nil (fun _ _ => undef) rfl (Nat.le_refl _) (by omega) (by omega) (by simp) (by intro i j hi; omega) (by simp) ⟨rfl, rfl, rfl⟩
  · exact .lit _
theorem one_zD1 (v : Value) (h : v.oneCell' = true) : oneD (zD1 v) = true := by
  unfold zD1
  split
  · rfl
  · exact h
theorem den_zD (v : Value) : Den M v (zD v) := by
  unfold zD
  split
  · rename_i cs
    split
    · rename_i h
      refine .agg _ _ (by simp) (fun i hi => ?_) (fun i d hd => ?_)
      · rw [List.all_eq_true] at h
        have := h cs[i] (by simp)
        simpa [Array.getD, hi] using this
      · rw [List.getElem?_map] at hd
        obtain ⟨y, hy, rfl⟩ := Option.map_eq_some_iff.1 hd
        have : cs.getD i undef = y := by
          rw [Array.getElem?_toList] at hy
          simp [Array.getD, (Array.getElem?_eq_some_iff.1 hy).1, (Array.getElem?_eq_some_iff.1 hy).2]
        rw [this]; exact den_zD1 y
    · exact .lit _
  · exact den_zD1 _
/-- A zero value that may stand in memory. -/
def zfit (P : Program) (t : TypeId) : Bool := match (P.info? t).bind (·.zero) with
  | some z => z.cells.all (·.oneCell')
  | none => false

theorem alloc_goes (h : Sim w0 M σ w) {t : TypeId} {T : TI} (hT : ti P t = some T) (hz : zfit P t = true) {zs : List D} (hzs : T.zero = some zs) {K : D → Store → Prop}
    (hk : ∀ b, σ b = none → K (.ptr b 0) (σ.set b (.cells zs))) : Goes P (Instr.alloc t true (.tuple #[])) w0 M w K := by
  obtain ⟨i, d, hi, hd, -, -, -, e, -⟩ := ti_some hT
  rw [hzs] at e
  cases hz0 : i.zero with
  | none => rw [hz0] at e; cases e
  | some z =>
    rw [hz0] at e
    injection e with e
    subst e
    have hone : ∀ j, j < z.cells.size → (z.cells.getD j undef).oneCell' = true := fun j hj => by
      simp only [zfit, hi, Option.bind_some, hz0] at hz
      rw [Array.all_eq_true] at hz
      have := hz j hj
      simpa [Array.getD, hj] using this
    refine ⟨_, w.alloc (.cells z.cells t), M, _, _, ?_, MLe.refl M, h.alloc_cells z.cells t _ (by simp) hone ?_, .lit _, hk _ h.fresh⟩
    · simp [Instr.alloc, run_zeroValue hi hz0, newVar, newRow]
    · intro j x hx
      rw [List.getElem?_map] at hx
      obtain ⟨y, hy, rfl⟩ := Option.map_eq_some_iff.1 hx
      have : z.cells.getD j undef = y := by
        rw [Array.getElem?_toList] at hy
        simp [Array.getD, (Array.getElem?_eq_some_iff.1 hy).1, (Array.getElem?_eq_some_iff.1 hy).2]
      rw [this]; exact den_zD1 y
end Go.HL
