/- Parts of the proofs, one behind the other: HLA HLB HLC HLD HLE HLF HLG HLH HLI HLJ HLK. -/
import Derived.WalkKit
import Derived.Orders
import Derived.WalkSpells
import Derived.LaidEql
/- HL, part A: Go memory told plainly: the data 'D', what a machine's value is told as ('Den'), and the relation between a world and a store ('Sim'). No program in sight. -/
set_option linter.unusedVariables false
set_option linter.unusedSimpArgs false
namespace Go.HL
open Go.RowKit

/-- May a slice be appended to: no word (ro), it is nil (nil), full (full), it owns the rest of its block (own). -/
inductive Tok where
  | ro
  | nil
  | full
  | own (b c k : Nat)

/-- A value told plainly. -/
inductive D where
  | any
  | lit (v : Value)
  | list (es : List (List D)) (tok : Tok)
  | agg (ds : List D)
  | tup (ds : List D)
  | iptr (ds : List D)

abbrev D.int (k : IntKind) (n : Int) : D := .lit (.int k n)
abbrev D.bool (b : Bool) : D := .lit (.bool b)
abbrev D.str (s : ByteArray) : D := .lit (.string s)
abbrev D.ptr (b o : Nat) : D := .lit (.pointer (some ⟨b, o, none⟩))

/-- Cells that stay as they are. -/
abbrev Mem := Nat → Nat → Option Value
def MLe (M M' : Mem) : Prop := ∀ b o v, M b o = some v → M' b o = some v
theorem MLe.refl (M : Mem) : MLe M M := fun _ _ _ h => h
theorem MLe.trans {M M' M'' : Mem} (h : MLe M M') (h' : MLe M' M'') : MLe M M'' := fun b o v e => h' b o v (h b o v e)

def TokOk (tok : Tok) (a : Option Addr) (n c k : Nat) : Prop :=
  match tok with
  | .ro => True
  | .nil => a = none ∧ n = 0 ∧ c = 0
  | .full => c = n
  | .own b c' k' => a = some ⟨b, 0, none⟩ ∧ c' = c ∧ k' = k

inductive Den (M : Mem) : Value → D → Prop
  | any (v : Value) : Den M v .any
  | lit (v : Value) : Den M v (.lit v)
  | agg (vs : Array Value) (ds : List D) (h : vs.size = ds.length) (h1 : ∀ i, i < vs.size → (vs.getD i undef).oneCell' = true) (h2 : ∀ (i : Nat) (d : D), ds[i]? = some d → Den M (vs.getD i undef) d) : Den M (.agg vs) (.agg ds)
  | tup (vs : Array Value) (ds : List D) (h : vs.size = ds.length) (h2 : ∀ (i : Nat) (d : D), ds[i]? = some d → Den M (vs.getD i undef) d) : Den M (.tuple vs) (.tup ds)
  | list (a : Option Addr) (n c k b o : Nat) (es : List (List D)) (tok : Tok) (cv : Nat → Nat → Value)
      (hn : n = es.length) (hc : n ≤ c) (hc2 : c ≤ 9223372036854775807) (ha : 0 < n → a = some ⟨b, o, none⟩) (hk : ∀ (i : Nat) (e : List D), es[i]? = some e → e.length = k)
      (hm : ∀ i j : Nat, i < n → j < k → M b (o + i * k + j) = some (cv i j))
      (hd : ∀ (i : Nat) (e : List D) (j : Nat) (d : D), es[i]? = some e → e[j]? = some d → Den M (cv i j) d) (ht : TokOk tok a n c k) : Den M (.slice a n c) (.list es tok)
  | iptr (b o : Nat) (ds : List D) (cv : Nat → Value) (hm : ∀ j, j < ds.length → M b (o + j) = some (cv j)) (hd : ∀ (j : Nat) (d : D), ds[j]? = some d → Den M (cv j) d) : Den M (.pointer (some ⟨b, o, none⟩)) (.iptr ds)

theorem Den.mono {M M' : Mem} (hM : MLe M M') {v : Value} {d : D} (h : Den M v d) : Den M' v d := by
  induction h with
  | any v => exact .any v
  | lit v => exact .lit v
  | agg vs ds h h1 h2 ih => exact .agg vs ds h h1 ih
  | tup vs ds h h2 ih => exact .tup vs ds h ih
  | list a n c k b o es tok cv hn hc hc2 ha hk hm hd ht ih => exact .list a n c k b o es tok cv hn hc hc2 ha hk (fun i j hi hj => hM _ _ _ (hm i j hi hj)) ih ht
  | iptr b o ds cv hm hd ih => exact .iptr b o ds cv (fun j hj => hM _ _ _ (hm j hj)) ih

/-- Blocks that may be written, as far as they are known. -/
inductive HObj where
  | cells (ds : List D)
  | spare (n c k : Nat)
  | hmap (es : List (ByteArray × Value))
abbrev Store := Nat → Option HObj
def Store.set (σ : Store) (b : Nat) (o : HObj) : Store := fun x => if x = b then some o else σ x
theorem Store.set_same (σ : Store) (b : Nat) (o : HObj) : (σ.set b o) b = some o := by simp [Store.set]
theorem Store.set_ne (σ : Store) (b x : Nat) (o : HObj) (h : x ≠ b) : (σ.set b o) x = σ x := by simp [Store.set, h]
def SLe (σ σ' : Store) : Prop := ∀ b o, σ b = some o → σ' b = some o
theorem SLe.refl (σ : Store) : SLe σ σ := fun _ _ h => h
theorem SLe.trans {a b c : Store} (h : SLe a b) (h' : SLe b c) : SLe a c := fun x o e => h' x o (h x o e)

structure Sim (w0 : World) (M : Mem) (σ : Store) (w : World) : Prop where
  base : Below w0.heap.size w0 w
  low : ∀ b o, σ b = some o → w0.heap.size ≤ b
  mem : ∀ b o v, M b o = some v → w.cell? ⟨b, o, none⟩ = some v ∧ v.oneCell' = true
  cells : ∀ b ds, σ b = some (.cells ds) → ∃ cs t, w.heap[b]? = some (.cells cs t (0, 0)) ∧ cs.size = ds.length ∧
    (∀ i, i < cs.size → (cs.getD i undef).oneCell' = true) ∧ (∀ i d, ds[i]? = some d → Den M (cs.getD i undef) d) ∧ ∀ o, M b o = none
  spare : ∀ b n c k, σ b = some (.spare n c k) → ∃ cs t, w.heap[b]? = some (.cells cs t (0, 0)) ∧ cs.size = c * k ∧ n ≤ c ∧ ∀ o, n * k ≤ o → M b o = none
  maps : ∀ b es, σ b = some (.hmap es) → ∃ (ents : Array MapEntry) (clock : Nat), w.heap[b]? = some (.map ents clock) ∧ ents.toList.map (fun e => (e.key, e.val)) = es.map (fun p => (Value.string p.1, p.2))

theorem Sim.drop {w0 : World} {M : Mem} {σ σ' : Store} {w : World} (h : Sim w0 M σ' w) (hs : SLe σ σ') : Sim w0 M σ w :=
  ⟨h.base, fun b o e => h.low b o (hs b o e), h.mem, fun b ds e => h.cells b ds (hs _ _ e), fun b n c k e => h.spare b n c k (hs _ _ e), fun b es e => h.maps b es (hs _ _ e)⟩

theorem Sim.lt {w0 : World} {M : Mem} {σ : Store} {w : World} (h : Sim w0 M σ w) {b : Nat} {o : HObj} (e : σ b = some o) : b < w.heap.size := by
  cases o with
  | cells ds => obtain ⟨cs, t, hb, _⟩ := h.cells b ds e; exact (Array.getElem?_eq_some_iff.1 hb).1
  | spare n c k => obtain ⟨cs, t, hb, _⟩ := h.spare b n c k e; exact (Array.getElem?_eq_some_iff.1 hb).1
  | hmap es => obtain ⟨cs, t, hb, _⟩ := h.maps b es e; exact (Array.getElem?_eq_some_iff.1 hb).1

theorem Sim.fresh {w0 : World} {M : Mem} {σ : Store} {w : World} (h : Sim w0 M σ w) : σ w.heap.size = none := by
  cases e : σ w.heap.size with
  | none => rfl
  | some o => exact absurd (h.lt e) (by omega)

theorem Sim.freshM {w0 : World} {M : Mem} {σ : Store} {w : World} (h : Sim w0 M σ w) (b : Nat) (hb : w.heap.size ≤ b) (o : Nat) : M b o = none := by
  cases e : M b o with
  | none => rfl
  | some v =>
    have := World.block_lt_of_cell? w _ (h.mem b o v e).1
    simp at this
    omega

/-- The world goes on by draws alone. -/
theorem Sim.drew {w0 : World} {M : Mem} {σ : Store} {w : World} (h : Sim w0 M σ w) : Sim w0 M σ w.drew :=
  ⟨h.base.drew, h.low, h.mem, h.cells, h.spare, h.maps⟩
theorem Sim.drawn {w0 : World} {M : Mem} {σ : Store} {w : World} (h : Sim w0 M σ w) (n : Nat) : Sim w0 M σ { w with drawn := n } :=
  ⟨⟨h.base.os, h.base.tape, h.base.output, h.base.size, h.base.block⟩, h.low, h.mem, h.cells, h.spare, h.maps⟩

theorem heap_push_lt (w : World) (o : Obj) (i : Nat) (h : i < w.heap.size) : (w.alloc o).heap[i]? = w.heap[i]? := by
  exact heap_alloc_old w o h
theorem heap_push_at (w : World) (o : Obj) : (w.alloc o).heap[w.heap.size]? = some o := heap_alloc_new w o

/-- A new block of cells. -/
theorem Sim.alloc_garbage {w0 : World} {M : Mem} {σ : Store} {w : World} (h : Sim w0 M σ w) (o : Obj) : Sim w0 M σ (w.alloc o) := by
  have old : ∀ b x, w.heap[b]? = some x → (w.alloc o).heap[b]? = some x := fun b x e => by
    rw [heap_push_lt _ _ _ (Array.getElem?_eq_some_iff.1 e).1, e]
  refine ⟨h.base.alloc h.base.size o, h.low, fun b oo v e => ⟨?_, (h.mem b oo v e).2⟩, fun b ds e => ?_, fun b n c k e => ?_, fun b es e => ?_⟩
  · have h1 := (h.mem b oo v e).1
    rw [World.cell?_alloc_lt _ _ _ (World.block_lt_of_cell? w _ h1)]
    exact h1
  · obtain ⟨cs, t, hb, r⟩ := h.cells b ds e; exact ⟨cs, t, old _ _ hb, r⟩
  · obtain ⟨cs, t, hb, r⟩ := h.spare b n c k e; exact ⟨cs, t, old _ _ hb, r⟩
  · obtain ⟨cs, t, hb, r⟩ := h.maps b es e; exact ⟨cs, t, old _ _ hb, r⟩

theorem Sim.alloc_cells {w0 : World} {M : Mem} {σ : Store} {w : World} (h : Sim w0 M σ w) (cs : Array Value) (t : TypeId) (ds : List D) (hs : cs.size = ds.length)
    (h1 : ∀ i, i < cs.size → (cs.getD i undef).oneCell' = true) (hd : ∀ i d, ds[i]? = some d → Den M (cs.getD i undef) d) :
    Sim w0 M (σ.set w.heap.size (.cells ds)) (w.alloc (.cells cs t)) := by
  have g := h.alloc_garbage (.cells cs t)
  have hn : ∀ b o, (σ.set w.heap.size (.cells ds)) b = some o → b ≠ w.heap.size → σ b = some o := fun b o e hne => by rwa [Store.set_ne _ _ _ _ hne] at e
  refine ⟨g.base, fun b o e => ?_, g.mem, fun b ds' e => ?_, fun b n c k e => ?_, fun b es e => ?_⟩
  · by_cases hb : b = w.heap.size
    · subst hb; exact h.base.size
    · exact h.low b o (hn b o e hb)
  · by_cases hb : b = w.heap.size
    · subst hb
      rw [Store.set_same] at e
      injection e with e
      injection e with e
      subst e
      exact ⟨cs, t, heap_push_at _ _, hs, h1, hd, fun o => h.freshM _ (Nat.le_refl _) o⟩
    · exact g.cells b ds' (hn b _ e hb)
  · by_cases hb : b = w.heap.size
    · subst hb; rw [Store.set_same] at e; cases e
    · exact g.spare b n c k (hn b _ e hb)
  · by_cases hb : b = w.heap.size
    · subst hb; rw [Store.set_same] at e; cases e
    · exact g.maps b es (hn b _ e hb)

theorem Sim.alloc_map {w0 : World} {M : Mem} {σ : Store} {w : World} (h : Sim w0 M σ w) : Sim w0 M (σ.set w.heap.size (.hmap [])) (w.alloc (.map #[] 0)) := by
  have g := h.alloc_garbage (.map #[] 0)
  have hn : ∀ b o, (σ.set w.heap.size (.hmap [])) b = some o → b ≠ w.heap.size → σ b = some o := fun b o e hne => by rwa [Store.set_ne _ _ _ _ hne] at e
  refine ⟨g.base, fun b o e => ?_, g.mem, fun b ds' e => ?_, fun b n c k e => ?_, fun b es e => ?_⟩
  · by_cases hb : b = w.heap.size
    · subst hb; exact h.base.size
    · exact h.low b o (hn b o e hb)
  · by_cases hb : b = w.heap.size
    · subst hb; rw [Store.set_same] at e; cases e
    · exact g.cells b ds' (hn b _ e hb)
  · by_cases hb : b = w.heap.size
    · subst hb; rw [Store.set_same] at e; cases e
    · exact g.spare b n c k (hn b _ e hb)
  · by_cases hb : b = w.heap.size
    · subst hb
      rw [Store.set_same] at e
      injection e with e
      injection e with e
      subst e
      exact ⟨#[], 0, heap_push_at _ _, rfl⟩
    · exact g.maps b es (hn b _ e hb)

/-- What changes one block that may be written: the rest of the relation. -/
theorem Sim.turn {w0 w w' : World} {M M' : Mem} {σ : Store} (h : Sim w0 M σ w) (g : Nat) (o' : HObj) (hg : ∃ o, σ g = some o) (hM : MLe M M')
    (hMg : ∀ b o, b ≠ g → M' b o = M b o)
    (hos : w'.os = w.os) (htape : w'.tape = w.tape) (hout : w'.output = w.output) (hsz : w'.heap.size = w.heap.size) (hblk : ∀ b, b ≠ g → w'.heap[b]? = w.heap[b]?)
    (hmem : ∀ o v, M' g o = some v → w'.cell? ⟨g, o, none⟩ = some v ∧ v.oneCell' = true)
    (hcells : ∀ ds, o' = .cells ds → ∃ cs t, w'.heap[g]? = some (.cells cs t (0, 0)) ∧ cs.size = ds.length ∧ (∀ i, i < cs.size → (cs.getD i undef).oneCell' = true) ∧ (∀ i d, ds[i]? = some d → Den M' (cs.getD i undef) d) ∧ ∀ o, M' g o = none)
    (hspare : ∀ n c k, o' = .spare n c k → ∃ cs t, w'.heap[g]? = some (.cells cs t (0, 0)) ∧ cs.size = c * k ∧ n ≤ c ∧ ∀ o, n * k ≤ o → M' g o = none)
    (hmaps : ∀ es, o' = .hmap es → ∃ (ents : Array MapEntry) (clock : Nat), w'.heap[g]? = some (.map ents clock) ∧ ents.toList.map (fun e => (e.key, e.val)) = es.map (fun p => (Value.string p.1, p.2))) :
    Sim w0 M' (σ.set g o') w' := by
  obtain ⟨o0, hg0⟩ := hg
  have hlow := h.low g o0 hg0
  have hn : ∀ b o, (σ.set g o') b = some o → b ≠ g → σ b = some o := fun b o e hne => by rwa [Store.set_ne _ _ _ _ hne] at e
  refine ⟨?_, fun b o e => ?_, fun b o v e => ?_, fun b ds' e => ?_, fun b n c k e => ?_, fun b es e => ?_⟩
  · exact ⟨hos.trans h.base.os, htape.trans h.base.tape, hout.trans h.base.output, by rw [hsz]; exact h.base.size, fun k hk => (hblk k (by omega)).trans (h.base.block k hk)⟩
  · by_cases hb : b = g
    · subst hb; exact hlow
    · exact h.low b o (hn b o e hb)
  · by_cases hb : b = g
    · subst hb; exact hmem o v e
    · rw [hMg b o hb] at e
      obtain ⟨h1, h2⟩ := h.mem b o v e
      refine ⟨?_, h2⟩
      rw [World.cell?_of_block (w := w) (hblk b hb)]
      exact h1
  · by_cases hb : b = g
    · subst hb
      rw [Store.set_same] at e
      injection e with e
      exact hcells ds' e
    · obtain ⟨cs, t, hb1, h2, h3, h4, h5⟩ := h.cells b ds' (hn b _ e hb)
      exact ⟨cs, t, by rw [hblk b hb]; exact hb1, h2, h3, fun i d hi => (h4 i d hi).mono hM, fun o => by rw [hMg b o hb]; exact h5 o⟩
  · by_cases hb : b = g
    · subst hb
      rw [Store.set_same] at e
      injection e with e
      exact hspare n c k e
    · obtain ⟨cs, t, hb1, h2, h3, h4⟩ := h.spare b n c k (hn b _ e hb)
      exact ⟨cs, t, by rw [hblk b hb]; exact hb1, h2, h3, fun o ho => by rw [hMg b o hb]; exact h4 o ho⟩
  · by_cases hb : b = g
    · subst hb
      rw [Store.set_same] at e
      injection e with e
      exact hmaps es e
    · obtain ⟨cs, t, hb1, h2⟩ := h.maps b es (hn b _ e hb)
      exact ⟨cs, t, by rw [hblk b hb]; exact hb1, h2⟩

end Go.HL
/- HL, part B: what is known of a type, and the plain words for operations. -/
set_option linter.unusedVariables false
set_option linter.unusedSimpArgs false
namespace Go.HL
open Go.RowKit

/-! ### Types -/
inductive KK where
  | int (k : IntKind)
  | bool
  | str
  | slice (e : TypeId)
  | map (k e : TypeId)
  | struct
  | array (n : Nat) (e : TypeId)
  | ptr (e : TypeId)
  | iface
  | other
def kkOf : TypeDesc → KK
  | .int k => .int k
  | .bool => .bool
  | .string => .str
  | .slice e => .slice e
  | .map k e => .map k e
  | .struct _ => .struct
  | .array n e => .array n e
  | .pointer e => .ptr e
  | .interface _ => .iface
  | _ => .other
def KK.agg : KK → Bool
  | .struct | .array _ _ => true
  | _ => false
/-- What is known of a type: its kind, cells, bytes, zero value (by cells), and, of a struct, of each field: its offset, its cells, is it a struct or an array. -/
structure TI where
  kk : KK
  size : Nat
  bytes : Nat
  zero : Option (List D)
  flds : List (Nat × Nat × Bool)

def zD1 (v : Value) : D :=
  match v with
  | .slice none 0 0 => .list [] .nil
  | v => .lit v
def zD (v : Value) : D :=
  match v with
  | .agg cs => if cs.toList.all (·.oneCell') then .agg (cs.toList.map zD1) else .lit v
  | v => zD1 v
def aggD (P : Program) (t : TypeId) : Bool := match P.underlying t with
  | some d => (kkOf d).agg
  | none => false
def fldsOf (P : Program) (d : TypeDesc) : List (Nat × Nat × Bool) :=
  match d with
  | .struct fs => fs.toList.map fun f => (f.offset, if (P.underlying f.type).isSome then ((P.info? f.type).map (·.size)).getD 0 else 0, aggD P f.type)
  | _ => []
def ti (P : Program) (t : TypeId) : Option TI :=
  match P.info? t, P.underlying t with
  | some i, some d => some { kk := kkOf d, size := i.size, bytes := i.bytes, zero := i.zero.map (fun z => z.cells.toList.map zD1), flds := fldsOf P d }
  | _, _ => none

theorem ti_some {P : Program} {t : TypeId} {T : TI} (h : ti P t = some T) : ∃ i d, P.info? t = some i ∧ P.underlying t = some d ∧ T.kk = kkOf d ∧ T.size = i.size ∧ T.bytes = i.bytes ∧
    T.zero = i.zero.map (fun z => z.cells.toList.map zD1) ∧ T.flds = fldsOf P d := by
  unfold ti at h
  split at h
  · rename_i i d hi hd
    injection h with h
    subst h
    exact ⟨i, d, hi, hd, rfl, rfl, rfl, rfl, rfl⟩
  · cases h

variable {P : Program} {w0 w : World} {M : Mem} {σ : Store}

theorem run_sizeOf {t : TypeId} {i : TypeInfo} (hi : P.info? t = some i) (w : World) : (sizeOf t).run P w = .ok i.size w := by simp [sizeOf, typeInfo, hi]
theorem run_zeroValue {t : TypeId} {i : TypeInfo} (hi : P.info? t = some i) {z : Value} (hz : i.zero = some z) (w : World) : (zeroValue t).run P w = .ok z w := by simp [zeroValue, typeInfo, hi, hz]
theorem run_isAgg {t : TypeId} {d : TypeDesc} (hd : P.underlying t = some d) (w : World) : (isAgg t).run P w = .ok (kkOf d).agg w := by
  cases d <;> simp [isAgg, run_underlying hd, kkOf, KK.agg]

/-! ### Cells that are read -/
/-- From address a on memory holds these. -/
def Holds (M : Mem) (w : World) (b o : Nat) (ds : List D) : Prop :=
  ∃ cv : Nat → Value, ∀ j, j < ds.length → w.cell? ⟨b, o + j, none⟩ = some (cv j) ∧ (cv j).oneCell' = true ∧ ∀ d, ds[j]? = some d → Den M (cv j) d
theorem Holds.drop {b o : Nat} {ds : List D} (h : Holds M w b o ds) (n : Nat) : Holds M w b (o + n) (ds.drop n) := by
  obtain ⟨cv, h⟩ := h
  refine ⟨fun j => cv (n + j), fun j hj => ?_⟩
  rw [List.length_drop] at hj
  have := h (n + j) (by omega)
  rw [← Nat.add_assoc] at this
  refine ⟨this.1, this.2.1, fun d hd => this.2.2 d ?_⟩
  rw [List.getElem?_drop] at hd
  exact hd
theorem Holds.take {b o : Nat} {ds : List D} (h : Holds M w b o ds) (n : Nat) : Holds M w b o (ds.take n) := by
  obtain ⟨cv, h⟩ := h
  refine ⟨cv, fun j hj => ?_⟩
  rw [List.length_take] at hj
  obtain ⟨h1, h2, h3⟩ := h j (by omega)
  refine ⟨h1, h2, fun d hd => h3 d ?_⟩
  rw [List.getElem?_take] at hd
  split at hd
  · exact hd
  · cases hd
theorem holds_cells (h : Sim w0 M σ w) {b : Nat} {ds : List D} (e : σ b = some (.cells ds)) : Holds M w b 0 ds := by
  obtain ⟨cs, t, hb, hs, h1, h2, _⟩ := h.cells b ds e
  refine ⟨fun j => cs.getD j undef, fun j hj => ⟨?_, h1 j (by omega), fun d hd => h2 j d hd⟩⟩
  rw [Nat.zero_add, cell_of_row w b j cs t (0, 0) hb]
  have : j < cs.size := by omega
  simp [Array.getD, this]
theorem holds_iptr (h : Sim w0 M σ w) {v : Value} {ds : List D} (e : Den M v (.iptr ds)) : ∃ b o, v = .pointer (some ⟨b, o, none⟩) ∧ Holds M w b o ds := by
  cases e with
  | iptr b o _ cv hm hd => exact ⟨b, o, rfl, cv, fun j hj => ⟨(h.mem _ _ _ (hm j hj)).1, (h.mem _ _ _ (hm j hj)).2, fun d hj' => hd j d hj'⟩⟩

theorem addr_add (b o j : Nat) : (⟨b, o, none⟩ : Addr).add j = ⟨b, o + j, none⟩ := by
  unfold Addr.add
  split
  · rename_i h; subst h; rfl
  · rfl

theorem Holds.loadCells {b o : Nat} {ds : List D} (h : Holds M w b o ds) :
    ∃ vs : Array Value, (loadCells ⟨b, o, none⟩ ds.length).run P w = .ok vs w ∧ vs.size = ds.length ∧ (∀ i, i < vs.size → (vs.getD i undef).oneCell' = true) ∧ ∀ i d, ds[i]? = some d → Den M (vs.getD i undef) d := by
  obtain ⟨cv, h⟩ := h
  have hl : ((List.range ds.length).map cv).length = ds.length := by simp
  have hr := run_loadCells_list (P := P) w ⟨b, o, none⟩ ((List.range ds.length).map cv) (fun j v hv => by
    rcases Nat.lt_or_ge j ds.length with h' | h'
    · rw [List.getElem?_map, List.getElem?_range h'] at hv
      simp at hv; subst hv
      rw [addr_add]
      exact (h j h').1
    · rw [List.getElem?_eq_none (by simp; omega)] at hv; cases hv)
  rw [hl] at hr
  have hg : ∀ i, i < ds.length → (((List.range ds.length).map cv).toArray).getD i undef = cv i := fun i hi => by simp [Array.getD, hi]
  refine ⟨_, hr, by simp, fun i hi => ?_, fun i d hd => ?_⟩
  · have hi' : i < ds.length := by simpa using hi
    rw [hg i hi']; exact (h i hi').2.1
  · have hi' : i < ds.length := (List.getElem?_eq_some_iff.1 hd).1
    rw [hg i hi']; exact (h i hi').2.2 d hd
end Go.HL

namespace Go.HL
open Go.RowKit
variable {P : Program} {w0 w : World} {M : Mem} {σ : Store}

/-! ### What an operation comes to -/
def Goes (P : Program) (s : Sem Value) (w0 : World) (M : Mem) (w : World) (K : D → Store → Prop) : Prop :=
  ∃ v w' M' d σ', s.run P w = .ok v w' ∧ MLe M M' ∧ Sim w0 M' σ' w' ∧ Den M' v d ∧ K d σ'
theorem Goes.pure {s : Sem Value} {K : D → Store → Prop} (h : Sim w0 M σ w) {v : Value} {d : D} (hr : s.run P w = .ok v w) (hd : Den M v d) (hk : K d σ) : Goes P s w0 M w K :=
  ⟨v, w, M, d, σ, hr, MLe.refl M, h, hd, hk⟩

/-- The cells of a value. -/
def cellsD : D → List D
  | .agg ds => ds
  | d => [d]
def oneD : D → Bool
  | .lit v => v.oneCell'
  | .list _ _ => true
  | .iptr _ => true
  | _ => false
/-- May it stand in memory? -/
def fitD : D → Bool
  | .agg _ => true
  | d => oneD d
def valD (agg : Bool) (ds : List D) : D := if agg then .agg ds else ds.headD .any

theorem cells_one {v : Value} (h : v.oneCell' = true) : v.cells = #[v] := by cases v <;> simp_all [Value.cells, Value.oneCell']
theorem den_one {v : Value} {d : D} (h : Den M v d) (hd : oneD d = true) : v.oneCell' = true := by
  cases h <;> simp_all [oneD, Value.oneCell']
theorem den_cells {v : Value} {d : D} (h : Den M v d) (hd : fitD d = true) :
    v.cells.size = (cellsD d).length ∧ (∀ i, i < v.cells.size → (v.cells.getD i undef).oneCell' = true) ∧ ∀ i x, (cellsD d)[i]? = some x → Den M (v.cells.getD i undef) x := by
  cases d with
  | agg ds =>
    cases h with
    | agg vs _ h0 h1 h2 => exact ⟨h0, h1, h2⟩
  | _ =>
    have h1 := den_one h (by simpa [fitD] using hd)
    rw [cells_one h1]
    refine ⟨rfl, fun i hi => ?_, fun i x hx => ?_⟩
    · simp at hi; subst hi; simpa using h1
    · cases i with
      | zero => simp [cellsD] at hx; subst hx; simpa using h
      | succ i => simp [cellsD] at hx

/-! load -/
def hload (T : TI) (d : D) (σ : Store) (K : D → Prop) : Prop :=
  match d with
  | .lit (.pointer (some ⟨b, o, none⟩)) =>
    match σ b with
    | some (.cells ds) => (o + T.size ≤ ds.length ∧ (T.kk.agg = true ∨ T.size = 1)) ∧ K (valD T.kk.agg ((ds.drop o).take T.size))
    | _ => False
  | .iptr ds => (T.size ≤ ds.length ∧ (T.kk.agg = true ∨ T.size = 1)) ∧ K (valD T.kk.agg (ds.take T.size))
  | _ => False

theorem holds_load (h : Sim w0 M σ w) {t : TypeId} {T : TI} (hT : ti P t = some T) {b o : Nat} {ds : List D} (hh : Holds M w b o ds) (hl : ds.length = T.size) (h1 : T.kk.agg = true ∨ T.size = 1)
    {K : D → Store → Prop} (hk : K (valD T.kk.agg ds) σ) : Goes P (Instr.loadAt t (.pointer (some ⟨b, o, none⟩))) w0 M w K := by
  obtain ⟨i, d, hi, hd, e1, e2, -, -, -⟩ := ti_some hT
  by_cases ha : (kkOf d).agg = true
  · obtain ⟨vs, hr, hs, hone, hden⟩ := hh.loadCells (P := P)
    have hv : valD T.kk.agg ds = .agg ds := by rw [e1]; simp [valD, ha]
    refine Goes.pure h (v := .agg vs) (d := .agg ds) ?_ (.agg vs ds hs hone hden) (by rw [← hv]; exact hk)
    rw [hl, e2] at hr
    simp [Instr.loadAt, Instr.sureAddr, loadVar, run_isAgg hd, ha, run_sizeOf hi, hr]
  · have hf : (kkOf d).agg = false := by simpa using ha
    obtain ⟨cv, hc⟩ := hh
    have hl1 : ds.length = 1 := by
      rcases h1 with h1 | h1
      · rw [e1, hf] at h1; cases h1
      · omega
    obtain ⟨h2, h3, h4⟩ := hc 0 (by omega)
    match ds, hl1 with
    | [x], _ =>
      have hv : valD T.kk.agg [x] = x := by rw [e1, hf]; rfl
      refine Goes.pure h (v := cv 0) (d := x) ?_ (h4 x rfl) (by rw [← hv]; exact hk)
      simp only [Nat.add_zero] at h2
      simp [Instr.loadAt, Instr.sureAddr, loadVar, run_isAgg hd, hf, h2]

theorem load_goes (h : Sim w0 M σ w) {t : TypeId} {T : TI} (hT : ti P t = some T) {v : Value} {d : D} (hv : Den M v d) {K : D → Store → Prop} (hk : hload T d σ (K · σ)) : Goes P (Instr.loadAt t v) w0 M w K := by
  unfold hload at hk
  split at hk
  · rename_i b o
    cases hv
    split at hk
    · rename_i ds e
      obtain ⟨⟨h1, h2⟩, hk⟩ := hk
      have hh := ((holds_cells h e).drop o).take T.size
      rw [Nat.zero_add] at hh
      exact holds_load h hT hh (by simp; omega) h2 hk
    · exact hk.elim
  · rename_i ds
    obtain ⟨b, o, rfl, hh⟩ := holds_iptr h hv
    obtain ⟨⟨h1, h2⟩, hk⟩ := hk
    exact holds_load h hT (hh.take T.size) (by simp; omega) h2 hk
  · exact hk.elim

/-! alloc, box -/
theorem alloc_cells_goes (h : Sim w0 M σ w) (t : TypeId) (v : Value) (d : D) (hv : Den M v d) (hd : fitD d = true) {K : D → Store → Prop} {s : Sem Value}
    (hr : s.run P w = .ok (.pointer (some ⟨w.heap.size, 0, none⟩)) (w.alloc (.cells v.cells t))) (hk : ∀ b, σ b = none → K (.ptr b 0) (σ.set b (.cells (cellsD d)))) : Goes P s w0 M w K := by
  obtain ⟨h1, h2, h3⟩ := den_cells hv hd
  exact ⟨_, _, M, _, _, hr, MLe.refl M, h.alloc_cells v.cells t (cellsD d) h1 h2 h3, .lit _, hk _ h.fresh⟩

theorem box_goes (h : Sim w0 M σ w) (t : TypeId) {v : Value} {d : D} (hv : Den M v d) (hd : fitD d = true) {K : D → Store → Prop}
    (hk : ∀ b, σ b = none → K (.ptr b 0) (σ.set b (.cells (cellsD d)))) : Goes P (Instr.box t v) w0 M w K :=
  alloc_cells_goes h t v d hv hd (by simp [Instr.box, newVar, newRow]) hk

theorem den_zD1 (v : Value) : Den M v (zD1 v) := by
  unfold zD1
  split
  · exact .list none 0 0 0 0 0 [] .nil (fun _ _ => undef) rfl (Nat.le_refl _) (by omega) (by omega) (by simp) (by intro i j hi; omega) (by simp) ⟨rfl, rfl, rfl⟩
  · exact .lit _
theorem one_zD1 (v : Value) (h : v.oneCell' = true) : oneD (zD1 v) = true := by
  unfold zD1
  split
  · rfl
  · exact h
theorem den_zD (v : Value) : Den M v (zD v) := by
  unfold zD
  split
  · rename_i cs
    split
    · rename_i h
      refine .agg _ _ (by simp) (fun i hi => ?_) (fun i d hd => ?_)
      · rw [List.all_eq_true] at h
        have := h cs[i] (by simp)
        simpa [Array.getD, hi] using this
      · rw [List.getElem?_map] at hd
        obtain ⟨y, hy, rfl⟩ := Option.map_eq_some_iff.1 hd
        have : cs.getD i undef = y := by
          rw [Array.getElem?_toList] at hy
          simp [Array.getD, (Array.getElem?_eq_some_iff.1 hy).1, (Array.getElem?_eq_some_iff.1 hy).2]
        rw [this]; exact den_zD1 y
    · exact .lit _
  · exact den_zD1 _
/-- A zero value that may stand in memory. -/
def zfit (P : Program) (t : TypeId) : Bool := match (P.info? t).bind (·.zero) with
  | some z => z.cells.all (·.oneCell')
  | none => false

theorem alloc_goes (h : Sim w0 M σ w) {t : TypeId} {T : TI} (hT : ti P t = some T) (hz : zfit P t = true) {zs : List D} (hzs : T.zero = some zs) {K : D → Store → Prop}
    (hk : ∀ b, σ b = none → K (.ptr b 0) (σ.set b (.cells zs))) : Goes P (Instr.alloc t true (.tuple #[])) w0 M w K := by
  obtain ⟨i, d, hi, hd, -, -, -, e, -⟩ := ti_some hT
  rw [hzs] at e
  cases hz0 : i.zero with
  | none => rw [hz0] at e; cases e
  | some z =>
    rw [hz0] at e
    injection e with e
    subst e
    have hone : ∀ j, j < z.cells.size → (z.cells.getD j undef).oneCell' = true := fun j hj => by
      simp only [zfit, hi, Option.bind_some, hz0] at hz
      rw [Array.all_eq_true] at hz
      have := hz j hj
      simpa [Array.getD, hj] using this
    refine ⟨_, w.alloc (.cells z.cells t), M, _, _, ?_, MLe.refl M, h.alloc_cells z.cells t _ (by simp) hone ?_, .lit _, hk _ h.fresh⟩
    · simp [Instr.alloc, run_zeroValue hi hz0, newVar, newRow]
    · intro j x hx
      rw [List.getElem?_map] at hx
      obtain ⟨y, hy, rfl⟩ := Option.map_eq_some_iff.1 hx
      have : z.cells.getD j undef = y := by
        rw [Array.getElem?_toList] at hy
        simp [Array.getD, (Array.getElem?_eq_some_iff.1 hy).1, (Array.getElem?_eq_some_iff.1 hy).2]
      rw [this]; exact den_zD1 y
end Go.HL
/- HL, part C: operations that write, build, and take parts. -/
set_option linter.unusedVariables false
set_option linter.unusedSimpArgs false
namespace Go.HL
open Go.RowKit
variable {P : Program} {w0 w : World} {M : Mem} {σ : Store}

/-! store -/
def spl (ds : List D) (o : Nat) (cs : List D) : List D := ds.take o ++ cs ++ ds.drop (o + cs.length)
theorem spl_length (ds : List D) (o : Nat) (cs : List D) (h : o + cs.length ≤ ds.length) : (spl ds o cs).length = ds.length := by simp [spl]; omega
theorem setRow_cell (w : World) (g : Nat) (old cs : Array Value) (t : TypeId) (fr : Nat × Nat) (h : w.heap[g]? = some (.cells old t fr)) (o : Nat) : (w.setRow g cs).cell? ⟨g, o, none⟩ = cs[o]? :=
  cell_of_row _ g o cs t fr (setRow_heap w g old cs t fr h)
/-- Cells that are written. -/
theorem Sim.write (h : Sim w0 M σ w) {b : Nat} {ds : List D} (e : σ b = some (.cells ds)) (o : Nat) (vs : List Value) (cs : List D) (hl : vs.length = cs.length) (hfit : o + cs.length ≤ ds.length)
    (h1 : ∀ v ∈ vs, v.oneCell' = true) (hd : ∀ i x, cs[i]? = some x → Den M (vs.getD i undef) x) :
    ∃ w', (storeCells ⟨b, o, none⟩ vs).run P w = .ok () w' ∧ Sim w0 M (σ.set b (.cells (spl ds o cs))) w' := by
  obtain ⟨cur, t, hb, hs, hone, hden, hno⟩ := h.cells b ds e
  have hr := run_storeCells_at P b o t vs 0 cur w hb (by omega) h1
  refine ⟨_, hr, ?_⟩
  simp only [Nat.add_zero]
  have hlen : (cur.toList.take o ++ vs ++ cur.toList.drop (o + vs.length)).length = ds.length := by simp; omega
  have hget : ∀ i, (cur.toList.take o ++ vs ++ cur.toList.drop (o + vs.length)).toArray.getD i undef =
      if i < o then cur.getD i undef else if i < o + vs.length then vs.getD (i - o) undef else cur.getD i undef := by
    intro i
    simp only [Array.getD_eq_getD_getElem?, List.getElem?_toArray, List.getD_eq_getElem?_getD]
    congr 1
    rw [List.append_assoc, List.getElem?_append]
    have h2 : (cur.toList.take o).length = o := by simp; omega
    rw [h2]
    split
    · rename_i hi; rw [List.getElem?_take, if_pos hi, Array.getElem?_toList]
    · rename_i hi
      rw [List.getElem?_append]
      split
      · rename_i hi2; rw [if_pos (by omega)]
      · rename_i hi2; rw [if_neg (by omega), List.getElem?_drop, Array.getElem?_toList, show o + vs.length + (i - o - vs.length) = i from by omega]
  have hgetD : ∀ i, (spl ds o cs)[i]? = if i < o then ds[i]? else if i < o + cs.length then cs[i - o]? else ds[i]? := by
    intro i
    unfold spl
    rw [List.append_assoc, List.getElem?_append]
    have h2 : (ds.take o).length = o := by simp; omega
    rw [h2]
    split
    · rename_i hi; rw [List.getElem?_take, if_pos hi]
    · rename_i hi
      rw [List.getElem?_append]
      split
      · rename_i hi2; rw [if_pos (by omega)]
      · rename_i hi2; rw [if_neg (by omega), List.getElem?_drop, show o + cs.length + (i - o - cs.length) = i from by omega]
  refine h.turn b _ ⟨_, e⟩ (MLe.refl M) (fun _ _ _ => rfl) rfl rfl rfl (by simp) (fun k hk => setRow_other w b k _ hk) (fun o' v hm => by rw [hno] at hm; cases hm) ?_ (fun _ _ _ hh => by cases hh) (fun _ hh => by cases hh)
  intro ds' hds'
  injection hds' with hds'
  subst hds'
  refine ⟨_, t, setRow_heap w b cur _ t _ hb, by simp only [List.size_toArray]; rw [hlen, spl_length _ _ _ hfit], fun i hi => ?_, fun i x hx => ?_, hno⟩
  · rw [hget]
    have hi' : i < ds.length := by simp only [List.size_toArray] at hi; omega
    split
    · exact hone i (by omega)
    · split
      · rename_i h3 h4
        have : i - o < vs.length := by omega
        have hmem : vs.getD (i - o) undef ∈ vs := by simp [List.getD_eq_getElem?_getD, this]
        exact h1 _ hmem
      · exact hone i (by omega)
  · rw [hget]
    rw [hgetD] at hx
    rw [hl]
    split
    · rename_i h3; rw [if_pos h3] at hx; exact hden i x hx
    · rename_i h3
      rw [if_neg h3] at hx
      split
      · rename_i h4; rw [if_pos h4] at hx; exact hd _ x hx
      · rename_i h4; rw [if_neg h4] at hx; exact hden i x hx

def hstore (T : TI) (a x : D) (σ : Store) (K : Store → Prop) : Prop :=
  match a with
  | .lit (.pointer (some ⟨b, o, none⟩)) =>
    match σ b with
    | some (.cells ds) => (o + T.size ≤ ds.length ∧ fitD x = true ∧ (cellsD x).length = T.size) ∧ K (σ.set b (.cells (spl ds o (cellsD x))))
    | _ => False
  | _ => False

theorem den_list_cells {v : Value} {x : D} (hx : Den M v x) (hf : fitD x = true) : v.cells.toList.length = (cellsD x).length ∧ (∀ u ∈ v.cells.toList, u.oneCell' = true) ∧ ∀ i y, (cellsD x)[i]? = some y → Den M (v.cells.toList.getD i undef) y := by
  obtain ⟨h1, h2, h3⟩ := den_cells hx hf
  refine ⟨by simpa using h1, fun u hu => ?_, fun i y hy => ?_⟩
  · obtain ⟨i, hi, rfl⟩ := List.getElem_of_mem hu
    have hi' : i < v.cells.size := by simpa using hi
    have := h2 i hi'
    simpa [Array.getD, hi'] using this
  · have := h3 i y hy
    simpa [List.getD_eq_getElem?_getD, Array.getD_eq_getD_getElem?] using this

theorem store_goes (h : Sim w0 M σ w) {t : TypeId} {T : TI} (hT : ti P t = some T) {va vx : Value} {a x : D} (ha : Den M va a) (hx : Den M vx x) {K : Store → Prop} (hk : hstore T a x σ K) :
    ∃ w' σ', (Instr.storeAt t va vx).run P w = .ok () w' ∧ Sim w0 M σ' w' ∧ K σ' := by
  obtain ⟨i, d, hi, hd, e1, e2, -, -, -⟩ := ti_some hT
  unfold hstore at hk
  split at hk
  · rename_i b o
    cases ha
    split at hk
    · rename_i ds e
      obtain ⟨⟨h1, h2, h3⟩, hk⟩ := hk
      obtain ⟨c1, c2, c3⟩ := den_list_cells hx h2
      obtain ⟨w', hr, hs⟩ := h.write (P := P) e o vx.cells.toList (cellsD x) c1 (by omega) c2 c3
      refine ⟨w', _, ?_, hs, hk⟩
      have hsz : vx.cells.size = i.size := by simp at c1; omega
      simp [Instr.storeAt, Instr.sureAddr, storeVar, run_sizeOf hi, hsz, hr]
    · exact hk.elim
  · exact hk.elim

/-! fieldAddr, field -/
def hfieldAddr (T : TI) (d : D) (f : Nat) (K : D → Prop) : Prop :=
  match T.flds[f]? with
  | some (off, sz, _) => sz ≠ 0 ∧ match d with
    | .lit (.pointer (some ⟨b, o, none⟩)) => K (.ptr b (o + off))
    | .iptr ds => off ≤ ds.length ∧ K (.iptr (ds.drop off))
    | _ => False
  | none => False

theorem den_iptr_drop {b o : Nat} {ds : List D} (h : Den M (.pointer (some ⟨b, o, none⟩)) (.iptr ds)) (n : Nat) (hn : n ≤ ds.length) : Den M (.pointer (some ⟨b, o + n, none⟩)) (.iptr (ds.drop n)) := by
  cases h with
  | iptr _ _ _ cv hm hd =>
    refine .iptr b (o + n) _ (fun j => cv (n + j)) (fun j hj => ?_) (fun j d hj => ?_)
    · rw [List.length_drop] at hj
      have := hm (n + j) (by omega)
      rwa [← Nat.add_assoc] at this
    · rw [List.getElem?_drop] at hj
      exact hd _ _ hj

theorem flds_some {T : TI} {t : TypeId} (hT : ti P t = some T) {f off sz : Nat} {ag : Bool} (e : T.flds[f]? = some (off, sz, ag)) (hz : sz ≠ 0) :
    ∃ fs fd i dd, P.underlying t = some (.struct fs) ∧ fs[f]? = some fd ∧ fd.offset = off ∧ P.info? fd.type = some i ∧ i.size = sz ∧ P.underlying fd.type = some dd ∧ ag = (kkOf dd).agg := by
  obtain ⟨i, d, hi, hd, -, -, -, -, e5⟩ := ti_some hT
  rw [e5] at e
  cases d <;> simp only [fldsOf, List.getElem?_nil] at e <;> try (cases e; done)
  rename_i fs
  rw [List.getElem?_map] at e
  obtain ⟨fd, hf, he⟩ := Option.map_eq_some_iff.1 e
  rw [Array.getElem?_toList] at hf
  simp only [Prod.mk.injEq] at he
  obtain ⟨a1, a2, a3⟩ := he
  cases hw : P.underlying fd.type with
  | none => rw [hw] at a2; simp at a2; exact absurd a2.symm hz
  | some dd =>
    cases hq : P.info? fd.type with
    | none => rw [hw, hq] at a2; simp at a2; exact absurd a2.symm hz
    | some q => exact ⟨fs, fd, q, dd, hd, hf, a1, hq, by rw [hw, hq] at a2; simpa using a2, hw, by rw [← a3]; simp [aggD, hw]⟩

theorem fieldAddr_goes (h : Sim w0 M σ w) {t : TypeId} {T : TI} (hT : ti P t = some T) {v : Value} {d : D} (hv : Den M v d) (f : Nat) {K : D → Store → Prop} (hk : hfieldAddr T d f (K · σ)) : Goes P (Instr.fieldAt t v f) w0 M w K := by
  unfold hfieldAddr at hk
  split at hk
  · rename_i off sz ag e
    obtain ⟨hz, hk⟩ := hk
    obtain ⟨fs, fd, i, dd, hu, hf, rfl, hi, rfl, -, -⟩ := flds_some hT e hz
    split at hk
    · rename_i b o
      cases hv
      refine Goes.pure h ?_ (.lit _) hk
      simp [Instr.fieldAt, run_underlying hu, hf, Instr.sureAddr, fieldPlace, run_sizeOf hi, hz, addr_add]
    · rename_i ds
      obtain ⟨b, o, rfl, -⟩ := holds_iptr h hv
      refine Goes.pure h ?_ (den_iptr_drop hv fd.offset hk.1) hk.2
      simp [Instr.fieldAt, run_underlying hu, hf, Instr.sureAddr, fieldPlace, run_sizeOf hi, hz, addr_add]
    · exact hk.elim
  · exact hk.elim

def hfield (T : TI) (d : D) (f : Nat) (K : D → Prop) : Prop :=
  match T.flds[f]?, d with
  | some (off, sz, ag), .agg ds => (sz ≠ 0 ∧ off + sz ≤ ds.length ∧ (ag = true ∨ sz = 1)) ∧ K (valD ag ((ds.drop off).take sz))
  | _, _ => False

/-- A part of a struct's value. -/
theorem part_goes (h : Sim w0 M σ w) {t : TypeId} {i : TypeInfo} (hi : P.info? t = some i) {dd : TypeDesc} (hu : P.underlying t = some dd) {vs : Array Value} {ds : List D} (hv : Den M (.agg vs) (.agg ds)) (off : Nat)
    (hl : off + i.size ≤ ds.length) (h1 : (kkOf dd).agg = true ∨ i.size = 1) {K : D → Store → Prop} (hk : K (valD (kkOf dd).agg ((ds.drop off).take i.size)) σ) : Goes P (part t vs off) w0 M w K := by
  cases hv with
  | agg _ _ hs hone hd =>
    by_cases ha : (kkOf dd).agg = true
    · have e : valD (kkOf dd).agg ((ds.drop off).take i.size) = .agg ((ds.drop off).take i.size) := by simp [valD, ha]
      rw [e] at hk
      refine Goes.pure h (v := .agg (vs.extract off (off + i.size))) ?_ (.agg _ _ (by simp; omega) (fun j hj => ?_) (fun j x hx => ?_)) hk
      · simp [part, run_isAgg hu, ha, run_sizeOf hi]
      · simp at hj
        have := hone (off + j) (by omega)
        simp [Array.getD, show j < min (off + i.size) vs.size - off by omega]
        simpa [Array.getD, show off + j < vs.size by omega] using this
      · rw [List.getElem?_take] at hx
        split at hx
        · rw [List.getElem?_drop] at hx
          have := hd _ _ hx
          have hb := (List.getElem?_eq_some_iff.1 hx).1
          simp [Array.getD, show j < min (off + i.size) vs.size - off by omega]
          simpa [Array.getD, show off + j < vs.size by omega] using this
        · cases hx
    · have hf : (kkOf dd).agg = false := by simpa using ha
      have hsz : i.size = 1 := by
        rcases h1 with h1 | h1
        · exact absurd h1 ha
        · exact h1
      rw [hsz] at hl hk
      have hlt : off < ds.length := by omega
      have e : valD (kkOf dd).agg ((ds.drop off).take 1) = ds[off] := by
        rw [hf]; simp only [valD, Bool.false_eq_true, if_false]
        rw [List.drop_eq_getElem_cons hlt]; rfl
      rw [e] at hk
      have hlt' : off < vs.size := by omega
      refine Goes.pure h (v := vs.getD off undef) ?_ (hd off _ (List.getElem?_eq_getElem hlt)) hk
      simp [part, run_isAgg hu, hf, hlt', Array.getD]

theorem field_goes (h : Sim w0 M σ w) {t : TypeId} {T : TI} (hT : ti P t = some T) {v : Value} {d : D} (hv : Den M v d) (f : Nat) {K : D → Store → Prop} (hk : hfield T d f (K · σ)) : Goes P (Instr.field t v f) w0 M w K := by
  unfold hfield at hk
  split at hk
  · rename_i off sz ag ds e
    obtain ⟨⟨hz, hl, h1⟩, hk⟩ := hk
    obtain ⟨fs, fd, i, dd, hu, hf, rfl, hi, rfl, hu2, rfl⟩ := flds_some hT e hz
    cases hv with
    | agg vs _ hs hone hd =>
      obtain ⟨v', w', M', d', σ', r⟩ := part_goes h hi hu2 (.agg vs ds hs hone hd) fd.offset hl h1 hk
      exact ⟨v', w', M', d', σ', by simp [Instr.field, run_underlying hu, hf, asAgg]; exact r.1, r.2⟩
  · exact hk.elim
end Go.HL
/- HL, part D: indexing, slicing, comparing, arithmetic. -/
set_option linter.unusedVariables false
set_option linter.unusedSimpArgs false
namespace Go.HL
open Go.RowKit
variable {P : Program} {w0 w : World} {M : Mem} {σ : Store}

theorem den_lit_inv {v u : Value} (h : Den M v (.lit u)) : v = u := by cases h; rfl

/-! indexAddr -/
def hindexAddr (E : Nat) (x ix : D) (K : D → Prop) : Prop :=
  match x, ix with
  | .list es _, .lit (.int _ i) => (0 ≤ i ∧ i < (es.length : Int)) ∧ K (.iptr (es.getD i.toNat []))
  | .lit (.slice (some ⟨b, o, none⟩) n _), .lit (.int _ i) => (0 ≤ i ∧ i < (n : Int)) ∧ K (.ptr b (o + i.toNat * E))
  | _, _ => False

theorem den_list_inv {v : Value} {es : List (List D)} {tok : Tok} (h : Den M v (.list es tok)) : ∃ (a : Option Addr) (c k b o : Nat) (cv : Nat → Nat → Value), v = .slice a es.length c ∧ es.length ≤ c ∧ c ≤ 9223372036854775807 ∧ (0 < es.length → a = some ⟨b, o, none⟩) ∧ (∀ (i : Nat) (e : List D), es[i]? = some e → e.length = k) ∧
    (∀ i j : Nat, i < es.length → j < k → M b (o + i * k + j) = some (cv i j)) ∧ (∀ (i : Nat) (e : List D) (j : Nat) (d : D), es[i]? = some e → e[j]? = some d → Den M (cv i j) d) ∧ TokOk tok a es.length c k := by
  cases h with
  | list a n c k b o _ _ cv hn hc hc2 ha hk hm hd ht => subst hn; exact ⟨a, c, k, b, o, cv, rfl, hc, hc2, ha, hk, hm, hd, ht⟩

/-- The cells of a slice's elements have the size of its element type. -/
def SizedAs (d : D) (n : Nat) : Prop := match d with
  | .list es _ => ∀ e ∈ es, e.length = n
  | _ => True

theorem indexAddr_goes (h : Sim w0 M σ w) {t e : TypeId} {T E : TI} (hT : ti P t = some T) (hE : ti P e = some E) (hkk : T.kk = .slice e) {v vi : Value} {x ix : D} (hv : Den M v x) (hi : Den M vi ix)
    (hsz : SizedAs x E.size) {K : D → Store → Prop} (hk : hindexAddr E.size x ix (K · σ)) : Goes P (Instr.indexAt t v vi) w0 M w K := by
  obtain ⟨ie, de, hie, hde, -, es2, -, -, -⟩ := ti_some hE
  obtain ⟨it, dt, hit, hdt, e1, -, -, -, -⟩ := ti_some hT
  have hu : P.underlying t = some (.slice e) := by
    rw [hdt]; rw [hkk] at e1
    cases dt <;> simp [kkOf] at e1
    rw [← e1]
  unfold hindexAddr at hk
  split at hk
  · rename_i es tok kk i
    obtain ⟨⟨h0, h1⟩, hk⟩ := hk
    have hvi := den_lit_inv hi
    subst hvi
    obtain ⟨a, c, k, b, o, cv, rfl, hc, hc2, ha, hlen, hm, hd, ht⟩ := den_list_inv hv
    have hpos : 0 < es.length := by omega
    obtain rfl := ha hpos
    obtain ⟨n, rfl⟩ := Int.eq_ofNat_of_zero_le h0
    have hn : n < es.length := by omega
    have hen : es[n]? = some es[n] := List.getElem?_eq_getElem hn
    have hkE : k = ie.size := by rw [← es2, ← hlen n _ hen]; exact hsz _ (List.getElem_mem hn)
    refine Goes.pure h (v := .pointer (some ⟨b, o + n * k, none⟩)) ?_ (.iptr b (o + n * k) _ (fun j => cv n j) (fun j hj => ?_) (fun j d hj => ?_)) hk
    · simp [Instr.indexAt, asIntOf, run_underlying hu, run_sizeOf hie, addr_add, hkE, hn]
    · simp [List.getD_eq_getElem?_getD, hn] at hj
      exact hm n j hn (by rw [← hlen n _ hen]; exact hj)
    · simp [List.getD_eq_getElem?_getD, hn] at hj
      exact hd n _ j d hen hj
  · rename_i b o n c kk i
    obtain ⟨⟨h0, h1⟩, hk⟩ := hk
    have hvi := den_lit_inv hi
    subst hvi
    have hvv := den_lit_inv hv
    subst hvv
    obtain ⟨m, rfl⟩ := Int.eq_ofNat_of_zero_le h0
    refine Goes.pure h ?_ (.lit _) hk
    have hm : m < n := by omega
    simp [Instr.indexAt, asIntOf, run_underlying hu, run_sizeOf hie, addr_add, hm, es2]
  · exact hk.elim

/-! index (a string's byte) -/
def hindex (x ix : D) (K : D → Prop) : Prop :=
  match x, ix with
  | .lit (.string s), .lit (.int _ i) => (0 ≤ i ∧ i < (s.size : Int)) ∧ K (.int .u8 ((s.get! i.toNat).toNat : Int))
  | _, _ => False
theorem index_goes (h : Sim w0 M σ w) {t : TypeId} {T : TI} (hT : ti P t = some T) (hkk : T.kk = .str) {v vi : Value} {x ix : D} (hv : Den M v x) (hi : Den M vi ix) {K : D → Store → Prop} (hk : hindex x ix (K · σ)) : Goes P (Instr.index t v vi) w0 M w K := by
  obtain ⟨it, dt, hit, hdt, e1, -, -, -, -⟩ := ti_some hT
  have hu : P.underlying t = some .string := by
    rw [hdt]; rw [hkk] at e1
    cases dt <;> simp [kkOf] at e1
    rfl
  unfold hindex at hk
  split at hk
  · rename_i s k i
    obtain ⟨⟨h0, h1⟩, hk⟩ := hk
    have hvi := den_lit_inv hi
    subst hvi
    have hvv := den_lit_inv hv
    subst hvv
    obtain ⟨m, rfl⟩ := Int.eq_ofNat_of_zero_le h0
    have hm : m < s.size := by omega
    refine Goes.pure h ?_ (.lit _) hk
    have hg : s[m]? = some s[m] := getElem?_pos s m hm
    have hg2 : s.get! m = s[m] := by
      show s.data[m]! = s.data[m]
      exact getElem!_pos s.data m hm
    simp [Instr.index, asIntOf, run_underlying hu, hg, hg2]
  · exact hk.elim

/-! slices of slices and strings -/
def bnd (d : Option D) (dflt : Nat) : Option Int := match d with
  | none => some dflt
  | some (.lit (.int _ i)) => some i
  | some _ => none
def hslice (E : Nat) (x : D) (lo hi : Option D) (K : D → Prop) : Prop :=
  match x with
  | .lit (.string s) => match bnd lo 0, bnd hi s.size with
    | some l, some h => (0 ≤ l ∧ l ≤ h ∧ h ≤ (s.size : Int)) ∧ K (.str (s.extract l.toNat h.toNat))
    | _, _ => False
  | .list es tok => match bnd lo 0, bnd hi es.length with
    | some l, some h => (0 ≤ l ∧ l ≤ h ∧ h ≤ (es.length : Int)) ∧ K (.list ((es.take h.toNat).drop l.toNat) .ro)
    | _, _ => False
  | .lit (.slice (some ⟨b, o, none⟩) n c) => match bnd lo 0, bnd hi n with
    | some l, some h => (0 ≤ l ∧ l ≤ h ∧ h ≤ (c : Int)) ∧ K (.lit (.slice (some (if c = l.toNat then ⟨b, o, none⟩ else ⟨b, o + l.toNat * E, none⟩)) (h.toNat - l.toNat) (c - l.toNat)))
    | _, _ => False
  | _ => False

theorem bounds_run {lo hi : Option D} {vlo vhi : Option Value} (hlo : ∀ d, lo = some d → ∃ v, vlo = some v ∧ Den M v d) (hhi : ∀ d, hi = some d → ∃ v, vhi = some v ∧ Den M v d)
    (nlo : lo = none → vlo = none) (nhi : hi = none → vhi = none) (b : Bool) (len cap : Nat) (hlc : len ≤ cap) {l h : Int} (el : bnd lo 0 = some l) (eh : bnd hi len = some h) (h0 : 0 ≤ l) (h1 : l ≤ h) (h2 : h ≤ cap) :
    (Instr.sliceBounds b len cap vlo vhi none).run P w = .ok (l.toNat, h.toNat, cap) w := by
  have hl : ∀ k, (Instr.sliceBound (.int k l) h.toNat .sliceB).run P w = .ok l.toNat w := fun k => run_sliceBound w k l h.toNat .sliceB h0 (by omega)
  have hh : ∀ k c, (Instr.sliceBound (.int k h) cap c).run P w = .ok h.toNat w := fun k c => run_sliceBound w k h cap c (by omega) h2
  cases hi with
  | none =>
    obtain rfl := nhi rfl
    simp [bnd] at eh
    cases lo with
    | none =>
      obtain rfl := nlo rfl
      simp [bnd] at el
      subst el; subst eh
      simp [Instr.sliceBounds]
    | some d =>
      obtain ⟨v, rfl, hv⟩ := hlo d rfl
      unfold bnd at el
      split at el <;> first | (rename_i heq; cases heq; done) | skip
      · rename_i k i heq
        injection el with el; subst el
        injection heq with heq; subst heq
        have := den_lit_inv hv; subst this
        subst eh
        have hl' := hl k
        simp at hl'
        simp [Instr.sliceBounds, hl']
      · cases el
  | some dh =>
    obtain ⟨v, rfl, hv⟩ := hhi dh rfl
    unfold bnd at eh
    split at eh <;> first | (rename_i heq; cases heq; done) | skip
    · rename_i k i heq
      injection eh with eh; subst eh
      injection heq with heq; subst heq
      have := den_lit_inv hv; subst this
      cases lo with
      | none =>
        obtain rfl := nlo rfl
        simp [bnd] at el
        subst el
        cases b <;> simp [Instr.sliceBounds, hh k]
      | some d =>
        obtain ⟨v, rfl, hv⟩ := hlo d rfl
        unfold bnd at el
        split at el <;> first | (rename_i heq; cases heq; done) | skip
        · rename_i k' i' heq
          injection el with el; subst el
          injection heq with heq; subst heq
          have := den_lit_inv hv; subst this
          cases b <;> simp [Instr.sliceBounds, hh k, hl k']
        · cases el
    · cases eh

theorem kk_slice {t e : TypeId} {T : TI} (hT : ti P t = some T) (hkk : T.kk = .slice e) : P.underlying t = some (.slice e) := by
  obtain ⟨it, dt, hit, hdt, e1, -, -, -, -⟩ := ti_some hT
  rw [hdt]; rw [hkk] at e1
  cases dt <;> simp [kkOf] at e1
  rw [← e1]
theorem kk_str {t : TypeId} {T : TI} (hT : ti P t = some T) (hkk : T.kk = .str) : P.underlying t = some .string := by
  obtain ⟨it, dt, hit, hdt, e1, -, -, -, -⟩ := ti_some hT
  rw [hdt]; rw [hkk] at e1
  cases dt <;> simp [kkOf] at e1
  rfl

theorem slice_str_goes (h : Sim w0 M σ w) {t : TypeId} {T : TI} (hT : ti P t = some T) (hkk : T.kk = .str) {v : Value} {x : D} (hv : Den M v x) {lo hi : Option D} {vlo vhi : Option Value}
    (hlo : ∀ d, lo = some d → ∃ v, vlo = some v ∧ Den M v d) (hhi : ∀ d, hi = some d → ∃ v, vhi = some v ∧ Den M v d) (nlo : lo = none → vlo = none) (nhi : hi = none → vhi = none)
    {K : D → Store → Prop} {s : ByteArray} (hx : x = .str s) (hk : hslice 0 x lo hi (K · σ)) : Goes P (Instr.sliceAt t v vlo vhi none) w0 M w K := by
  subst hx
  have := den_lit_inv hv; subst this
  unfold hslice at hk
  simp only at hk
  split at hk
  · rename_i l hh el eh
    obtain ⟨⟨h0, h1, h2⟩, hk⟩ := hk
    refine Goes.pure h ?_ (.lit _) hk
    have hu := kk_str hT hkk
    have hb := bounds_run (P := P) (w := w) hlo hhi nlo nhi false s.size s.size (Nat.le_refl _) el eh h0 h1 h2
    simp [Instr.sliceAt, run_underlying hu, Instr.slice, hb]
  · exact hk.elim

theorem slice_goes (h : Sim w0 M σ w) {t e : TypeId} {T E : TI} (hT : ti P t = some T) (hE : ti P e = some E) (hkk : T.kk = .slice e) {v : Value} {x : D} (hv : Den M v x) (hsz : SizedAs x E.size) {lo hi : Option D} {vlo vhi : Option Value}
    (hlo : ∀ d, lo = some d → ∃ v, vlo = some v ∧ Den M v d) (hhi : ∀ d, hi = some d → ∃ v, vhi = some v ∧ Den M v d) (nlo : lo = none → vlo = none) (nhi : hi = none → vhi = none)
    {K : D → Store → Prop} (hns : ∀ s, x ≠ .str s) (hcap : ∀ b o n c, x = .lit (.slice (some ⟨b, o, none⟩) n c) → n ≤ c) (hk : hslice E.size x lo hi (K · σ)) : Goes P (Instr.sliceAt t v vlo vhi none) w0 M w K := by
  obtain ⟨ie, de, hie, hde, -, es2, -, -, -⟩ := ti_some hE
  have hu := kk_slice hT hkk
  unfold hslice at hk
  split at hk
  · exact absurd rfl (hns _)
  · rename_i es tok
    split at hk
    · rename_i l hh el eh
      obtain ⟨⟨h0, h1, h2⟩, hk⟩ := hk
      obtain ⟨a, c, k, b, o, cv, rfl, hc, hc2, ha, hlen, hm, hd, ht⟩ := den_list_inv hv
      have hb := bounds_run (P := P) (w := w) hlo hhi nlo nhi true es.length c hc el eh h0 h1 (by omega)
      refine Goes.pure h (v := .slice (if c = l.toNat then a else a.map (·.add (l.toNat * ie.size))) (hh.toNat - l.toNat) (c - l.toNat)) ?_ ?_ hk
      · simp [Instr.sliceAt, run_underlying hu, Instr.slice, hb, run_sizeOf hie]
      · have hl2 : ((es.take hh.toNat).drop l.toNat).length = hh.toNat - l.toNat := by simp; omega
        have hget : ∀ (i : Nat) (e : List D), ((es.take hh.toNat).drop l.toNat)[i]? = some e → es[l.toNat + i]? = some e := fun i e he => by
          rw [List.getElem?_drop, List.getElem?_take] at he
          split at he
          · exact he
          · cases he
        refine .list _ _ _ k b (o + l.toNat * k) _ .ro (fun i j => cv (l.toNat + i) j) hl2.symm (by omega) (by omega) (fun hp => ?_) (fun i e he => hlen _ e (hget i e he)) (fun i j hi hj => ?_) (fun i e j d he hj => hd _ e j d (hget i e he) hj) trivial
        · obtain rfl := ha (by omega)
          have hl3 : l.toNat < es.length := by omega
          have hk2 : k = ie.size := by rw [← es2, ← hlen l.toNat _ (List.getElem?_eq_getElem hl3)]; exact hsz _ (List.getElem_mem hl3)
          rw [if_neg (by omega), hk2]
          simp [addr_add]
        · have := hm (l.toNat + i) j (by omega) hj
          rw [Nat.add_mul] at this
          rw [← Nat.add_assoc] at this
          exact this
    · exact hk.elim
  · rename_i b o n c
    split at hk
    · rename_i l hh el eh
      obtain ⟨⟨h0, h1, h2⟩, hk⟩ := hk
      have := den_lit_inv hv; subst this
      have hb := bounds_run (P := P) (w := w) hlo hhi nlo nhi true n c (hcap _ _ _ _ rfl) el eh h0 h1 (by omega)
      refine Goes.pure h ?_ (.lit _) hk
      simp [Instr.sliceAt, run_underlying hu, Instr.slice, hb, run_sizeOf hie, es2]
      split <;> simp [addr_add]
    · exact hk.elim
  · exact hk.elim

/-! slices with a third index -/
def hslice3 (E : Nat) (x : D) (lo : Option D) (hi mx : D) (K : D → Prop) : Prop :=
  match x with
  | .lit (.slice (some ⟨b, o, none⟩) n c) => match bnd lo 0, bnd (some hi) 0, bnd (some mx) 0 with
    | some l, some h, some m => (0 ≤ l ∧ l ≤ h ∧ h ≤ m ∧ m ≤ (c : Int)) ∧ K (.lit (.slice (some (if m.toNat = l.toNat then ⟨b, o, none⟩ else ⟨b, o + l.toNat * E, none⟩)) (h.toNat - l.toNat) (m.toNat - l.toNat)))
    | _, _, _ => False
  | _ => False
theorem bnd_lit {d : D} {n : Nat} {i : Int} (h : bnd (some d) n = some i) : ∃ k, d = .lit (.int k i) := by
  unfold bnd at h
  split at h
  · simp at *
  · rename_i k j e; injection h with h; injection e with e; subst h; exact ⟨k, e⟩
  · cases h
theorem bounds_run3 {lo : Option D} {hi mx : D} {vlo : Option Value} {vhi vmx : Value} (hlo : ∀ d, lo = some d → ∃ v, vlo = some v ∧ Den M v d) (nlo : lo = none → vlo = none) (hhi : Den M vhi hi) (hmx : Den M vmx mx)
    (b : Bool) (len cap : Nat) {l h m : Int} (el : bnd lo 0 = some l) (eh : bnd (some hi) 0 = some h) (em : bnd (some mx) 0 = some m) (h0 : 0 ≤ l) (h1 : l ≤ h) (h2 : h ≤ m) (h3 : m ≤ cap) :
    (Instr.sliceBounds b len cap vlo (some vhi) (some vmx)).run P w = .ok (l.toNat, h.toNat, m.toNat) w := by
  obtain ⟨kh, rfl⟩ := bnd_lit eh
  obtain ⟨km, rfl⟩ := bnd_lit em
  have := den_lit_inv hhi; subst this
  have := den_lit_inv hmx; subst this
  have hm : ∀ c, (Instr.sliceBound (.int km m) cap c).run P w = .ok m.toNat w := fun c => run_sliceBound w km m cap c (by omega) h3
  have hh : ∀ c, (Instr.sliceBound (.int kh h) m.toNat c).run P w = .ok h.toNat w := fun c => run_sliceBound w kh h m.toNat c (by omega) (by omega)
  cases lo with
  | none =>
    obtain rfl := nlo rfl
    simp [bnd] at el
    subst el
    simp [Instr.sliceBounds, hm, hh]
  | some d =>
    obtain ⟨kl, rfl⟩ := bnd_lit el
    obtain ⟨v, rfl, hv⟩ := hlo _ rfl
    have := den_lit_inv hv; subst this
    have hl : ∀ c, (Instr.sliceBound (.int kl l) h.toNat c).run P w = .ok l.toNat w := fun c => run_sliceBound w kl l h.toNat c h0 (by omega)
    simp [Instr.sliceBounds, hm, hh, hl]
theorem slice3_goes (h : Sim w0 M σ w) {t e : TypeId} {T E : TI} (hT : ti P t = some T) (hE : ti P e = some E) (hkk : T.kk = .slice e) {v : Value} {x : D} (hv : Den M v x) {lo : Option D} {hi mx : D} {vlo : Option Value} {vhi vmx : Value}
    (hlo : ∀ d, lo = some d → ∃ v, vlo = some v ∧ Den M v d) (nlo : lo = none → vlo = none) (hhi : Den M vhi hi) (hmx : Den M vmx mx)
    {K : D → Store → Prop} (hk : hslice3 E.size x lo hi mx (K · σ)) : Goes P (Instr.sliceAt t v vlo (some vhi) (some vmx)) w0 M w K := by
  obtain ⟨ie, de, hie, hde, -, es2, -, -, -⟩ := ti_some hE
  have hu := kk_slice hT hkk
  unfold hslice3 at hk
  split at hk
  · rename_i b o n c
    split at hk
    · rename_i l hh m el eh em
      obtain ⟨⟨h0, h1, h2, h3⟩, hk⟩ := hk
      have := den_lit_inv hv; subst this
      have hb := bounds_run3 (P := P) (w := w) hlo nlo hhi hmx true n c el eh em h0 h1 h2 h3
      refine Goes.pure h ?_ (.lit _) hk
      simp [Instr.sliceAt, run_underlying hu, Instr.slice, hb, run_sizeOf hie, es2]
      split <;> simp [addr_add]
    · exact hk.elim
  · exact hk.elim
end Go.HL
/- HL, part E: comparing and reckoning. -/
set_option linter.unusedVariables false
set_option linter.unusedSimpArgs false
namespace Go.HL
open Go.RowKit
variable {P : Program} {w0 w : World} {M : Mem} {σ : Store}

theorem bytes_ext {a b : ByteArray} (h : a.toList = b.toList) : a = b := by
  rw [ByteArray.toList_eq, ByteArray.toList_eq] at h
  obtain ⟨⟨x⟩⟩ := a
  obtain ⟨⟨y⟩⟩ := b
  simp at h
  subst h; rfl
theorem toList_beq (a b : ByteArray) : (a.toList == b.toList) = decide (a = b) := by
  by_cases h : a = b
  · subst h; simp
  · have : ¬ a.toList = b.toList := fun e => h (bytes_ext e)
    simp [h, this]

/-! structs of numbers, texts and bools, field by field -/
def kindOf (P : Program) (t : TypeId) : KK := match P.underlying t with
  | some d => kkOf d
  | none => .other
def eqKinds (P : Program) (t : TypeId) : Option (List KK) :=
  match P.underlying t with
  | some (.struct fs) =>
    if P.stoodInHeld t = false ∧ P.eqGuardType P.depth t = false ∧ fs.toList.all (fun f => f.name != "_") = true ∧ fs.toList.map (·.offset) = List.range fs.toList.length then some (fs.toList.map fun f => kindOf P f.type) else none
  | _ => none
def eqCells : List KK → List D → List D → Option Bool
  | [], [], [] => some true
  | .int _ :: ks, .lit (.int k a) :: xs, .lit (.int k' b) :: ys => if k = k' then (eqCells ks xs ys).map (decide (a = b) && ·) else none
  | .str :: ks, .lit (.string a) :: xs, .lit (.string b) :: ys => (eqCells ks xs ys).map (decide (a = b) && ·)
  | .bool :: ks, .lit (.bool a) :: xs, .lit (.bool b) :: ys => (eqCells ks xs ys).map (decide (a = b) && ·)
  | _, _, _ => none

theorem run_part_one {t : TypeId} {d : TypeDesc} (hu : P.underlying t = some d) (ha : (kkOf d).agg = false) (vs : Array Value) (o : Nat) (v : Value) (hv : vs[o]? = some v) (w : World) : (part t vs o).run P w = .ok v w := by
  simp [part, run_isAgg hu, ha, hv]

theorem eqFields_run (n : Nat) (w : World) : ∀ (fs : List Field) (o : Nat) (xs ys : Array Value) (dx dy : List D) (r : Bool), fs.all (fun f => f.name != "_") = true → fs.map (·.offset) = List.range' o fs.length →
    (∀ i d, dx[i]? = some d → Den M (xs.getD (o + i) undef) d) → (∀ i d, dy[i]? = some d → Den M (ys.getD (o + i) undef) d) → (o + dx.length ≤ xs.size) → (o + dy.length ≤ ys.size) →
    eqCells (fs.map fun f => kindOf P f.type) dx dy = some r → (Op.eqFields (n + 1) xs ys fs).run P w = .ok r w := by
  intro fs
  induction fs with
  | nil =>
    intro o xs ys dx dy r _ _ _ _ _ _ he
    cases dx <;> cases dy <;> simp [eqCells] at he
    subst he
    simp [Op.eqFields]
  | cons f fs ih =>
    intro o xs ys dx dy r hn ho hx hy lx ly he
    simp only [List.all_cons, Bool.and_eq_true, bne_iff_ne, ne_eq] at hn
    simp only [List.map_cons, List.length_cons, List.range'_succ, List.cons.injEq] at ho
    obtain ⟨ho1, ho2⟩ := ho
    cases dx with
    | nil => simp [eqCells] at he
    | cons x dx =>
    cases dy with
    | nil => simp only [List.map_cons] at he; unfold eqCells at he; split at he <;> simp_all
    | cons y dy =>
    have hx0 := hx 0 x rfl
    have hy0 := hy 0 y rfl
    have hxr : ∀ i d, dx[i]? = some d → Den M (xs.getD (o + 1 + i) undef) d := fun i d hd => by have := hx (i + 1) d (by simpa using hd); rwa [show o + (i + 1) = o + 1 + i from by omega] at this
    have hyr : ∀ i d, dy[i]? = some d → Den M (ys.getD (o + 1 + i) undef) d := fun i d hd => by have := hy (i + 1) d (by simpa using hd); rwa [show o + (i + 1) = o + 1 + i from by omega] at this
    simp only [List.length_cons] at lx ly
    have gx : xs[o]? = some (xs.getD o undef) := by simp [Array.getD, show o < xs.size by omega]
    have gy : ys[o]? = some (ys.getD o undef) := by simp [Array.getD, show o < ys.size by omega]
    have hstep : ∀ (kd : TypeDesc) (vx vy : Value) (b : Bool) (r' : Bool), P.underlying f.type = some kd → (kkOf kd).agg = false → xs.getD o undef = vx → ys.getD o undef = vy →
        (Op.equalIn (n + 1) f.type vx vy).run P w = .ok b w → eqCells (fs.map fun f => kindOf P f.type) dx dy = some r' → r = (b && r') → (Op.eqFields (n + 1) xs ys (f :: fs)).run P w = .ok r w := by
      intro kd vx vy b r' hu ha ex ey hb hr' hr
      have h1 := run_part_one hu ha xs o vx (by rw [gx, ex]) w
      have h2 := run_part_one hu ha ys o vy (by rw [gy, ey]) w
      rw [← ho1] at h1 h2
      have h3 := ih (o + 1) xs ys dx dy r' (by simpa using hn.2) ho2 hxr hyr (by omega) (by omega) hr'
      subst hr
      cases b <;> simp [Op.eqFields, hn.1, h1, h2, hb, h3]
    simp only [List.map_cons] at he
    cases hu : P.underlying f.type with
    | none => simp [kindOf, hu, eqCells] at he
    | some kd =>
      have hk : kindOf P f.type = kkOf kd := by simp [kindOf, hu]
      rw [hk] at he
      unfold eqCells at he
      split at he
      · rename_i h0 _ _; simp at h0
      · rename_i k0 ks k a xs' k' b ys' e1 e2 e3
        simp only [List.cons.injEq] at e1 e2 e3
        obtain ⟨e1, rfl⟩ := e1; obtain ⟨rfl, rfl⟩ := e2; obtain ⟨rfl, rfl⟩ := e3
        split at he
        · rename_i hkk; subst hkk
          obtain ⟨r', hr', hr⟩ := Option.map_eq_some_iff.1 he
          cases kd <;> simp [kkOf] at e1
          refine hstep _ _ _ (decide (a = b)) r' hu rfl (den_lit_inv hx0) (den_lit_inv hy0) ?_ hr' hr.symm
          simp [Op.equalIn, run_underlying hu]
          rfl
        · cases he
      · rename_i ks a xs' b ys' e1 e2 e3
        simp only [List.cons.injEq] at e1 e2 e3
        obtain ⟨e1, rfl⟩ := e1; obtain ⟨rfl, rfl⟩ := e2; obtain ⟨rfl, rfl⟩ := e3
        obtain ⟨r', hr', hr⟩ := Option.map_eq_some_iff.1 he
        cases kd <;> simp [kkOf] at e1
        refine hstep _ _ _ (decide (a = b)) r' hu rfl (den_lit_inv hx0) (den_lit_inv hy0) ?_ hr' hr.symm
        rw [run_equalIn_string w n f.type a b hu, toList_beq]
      · rename_i ks a xs' b ys' e1 e2 e3
        simp only [List.cons.injEq] at e1 e2 e3
        obtain ⟨e1, rfl⟩ := e1; obtain ⟨rfl, rfl⟩ := e2; obtain ⟨rfl, rfl⟩ := e3
        obtain ⟨r', hr', hr⟩ := Option.map_eq_some_iff.1 he
        cases kd <;> simp [kkOf] at e1
        refine hstep _ _ _ (decide (a = b)) r' hu rfl (den_lit_inv hx0) (den_lit_inv hy0) ?_ hr' hr.symm
        rw [run_equalIn_bool' w n f.type a b hu]
        cases a <;> cases b <;> rfl
      · cases he

/-! two operands -/
def intBin (op : BinOp) (k : IntKind) (a b : Int) (K : D → Prop) : Prop :=
  match op with
  | .add => K (.int k (k.wrap (a + b)))
  | .sub => K (.int k (k.wrap (a - b)))
  | .mul => K (.int k (k.wrap (a * b)))
  | .quo => b ≠ 0 ∧ K (.int k (k.wrap (a.tdiv b)))
  | .rem => b ≠ 0 ∧ K (.int k (a.tmod b))
  | .eql => K (.bool (decide (a = b)))
  | .neq => K (.bool (!decide (a = b)))
  | .lss => K (.bool (decide (a < b)))
  | .leq => K (.bool (decide (a ≤ b)))
  | .gtr => K (.bool (decide (b < a)))
  | .geq => K (.bool (decide (b ≤ a)))
  | .and => K (.int k (k.wrap (BitVec.ofInt k.bits a &&& BitVec.ofInt k.bits b).toNat))
  | .or => K (.int k (k.wrap (BitVec.ofInt k.bits a ||| BitVec.ofInt k.bits b).toNat))
  | .xor => K (.int k (k.wrap (BitVec.ofInt k.bits a ^^^ BitVec.ofInt k.bits b).toNat))
  | .andNot => K (.int k (k.wrap (BitVec.ofInt k.bits a &&& ~~~ BitVec.ofInt k.bits b).toNat))
  | _ => False
def strBin (op : BinOp) (a b : ByteArray) (K : D → Prop) : Prop :=
  match op with
  | .add => (a.size + b.size : Int) ≤ 9223372036854775807 ∧ K (.str (a ++ b))
  | .eql => K (.bool (decide (a = b)))
  | .neq => K (.bool (!decide (a = b)))
  | .lss => K (.bool (Op.bytesLess a.toList b.toList))
  | .gtr => K (.bool (!(Op.bytesLess a.toList b.toList || decide (a = b))))
  | .leq => K (.bool (Op.bytesLess a.toList b.toList || decide (a = b)))
  | .geq => K (.bool (!Op.bytesLess a.toList b.toList))
  | _ => False
def eqBin (op : BinOp) (r : Bool) (K : D → Prop) : Prop :=
  match op with
  | .eql => K (.bool r)
  | .neq => K (.bool (!r))
  | _ => False
def KK.isPtr : KK → Bool
  | .ptr _ => true
  | _ => false
def KK.isSlice : KK → Bool
  | .slice _ => true
  | _ => false
def KK.isIface : KK → Bool
  | .iface => true
  | _ => false
def KK.isBool : KK → Bool
  | .bool => true
  | _ => false
def isC : Operand → Bool
  | .const _ => true
  | _ => false
def isShift : BinOp → Bool
  | .shl | .shr => true
  | _ => false
def shBin (op : BinOp) (k : IntKind) (a b : Int) (K : D → Prop) : Prop :=
  match op with
  | .shl => 0 ≤ b ∧ K (.int k (k.wrap (a * 2 ^ (min b.toNat k.bits))))
  | .shr => 0 ≤ b ∧ K (.int k (a.fdiv (2 ^ (min b.toNat k.bits))))
  | _ => False
def hbin (P : Program) (op : BinOp) (t : TypeId) (T : TI) (c : Bool) (a b : D) (K : D → Prop) : Prop :=
  match a, b with
  | .lit (.int k x), .lit (.int k' y) => if isShift op then shBin op k x y K else k = k' ∧ intBin op k x y K
  | .lit (.string x), .lit (.string y) => strBin op x y K
  | .lit (.bool x), .lit (.bool y) => T.kk.isBool = true ∧ eqBin op (decide (x = y)) K
  | .lit .nilIface, .lit .nilIface => (T.kk.isIface = true ∧ c = true) ∧ eqBin op true K
  | .lit (.iface _ _), .lit .nilIface => T.kk.isIface = true ∧ eqBin op false K
  | .lit .nilIface, .lit (.iface _ _) => T.kk.isIface = true ∧ eqBin op false K
  | .lit (.iface t1 (.int k x)), .lit (.iface t2 (.int k' y)) => (T.kk.isIface = true ∧ t1 = t2 ∧ k = k' ∧ kindOf P t1 = .int k ∧ ((P.info? t1).map (·.comparable)) = some true) ∧ eqBin op (decide (x = y)) K
  | .lit (.pointer none), .lit (.pointer none) => T.kk.isPtr = true ∧ eqBin op true K
  | .lit (.pointer (some _)), .lit (.pointer none) => T.kk.isPtr = true ∧ eqBin op false K
  | .iptr _, .lit (.pointer none) => T.kk.isPtr = true ∧ eqBin op false K
  | .list es tok, .list [] .nil => T.kk.isSlice = true ∧ ∀ r, (r = true → es = []) → (tok = .nil → r = true) → eqBin op r K
  | .agg xs, .agg ys => match (eqKinds P t).bind (fun ks => eqCells ks xs ys) with
    | some r => eqBin op r K
    | none => False
  | _, _ => False

theorem kk_desc {t : TypeId} {T : TI} (hT : ti P t = some T) : ∃ d, P.underlying t = some d ∧ T.kk = kkOf d := by
  obtain ⟨it, dt, hit, hdt, e1, -⟩ := ti_some hT
  exact ⟨dt, hdt, e1⟩

theorem eqBin_goes (h : Sim w0 M σ w) (op : BinOp) (t : TypeId) (vx vy : Value) (r : Bool) {K : D → Store → Prop} (hk : eqBin op r (K · σ)) {g : Sem Unit} (hg : g.run P w = .ok () w)
    (hr : (Op.equal t vx vy).run P w = .ok r w) (he : binOp .eql t vx vy = (do pure (.bool (← Op.equal t vx vy)))) (hn : binOp .neq t vx vy = (do pure (.bool (!(← Op.equal t vx vy))))) :
    Goes P (do g; binOp op t vx vy) w0 M w K := by
  cases op <;> simp only [eqBin] at hk
  · exact Goes.pure h (by simp [hg, he, hr]) (.lit _) hk
  · exact Goes.pure h (by simp [hg, hn, hr]) (.lit _) hk

theorem guard_quiet (op : BinOp) (t : TypeId) (x y : Operand) (a b : Value) (w : World) (h1 : ∀ p q, a = .agg p → b = .agg q → P.eqGuardType P.depth t = false) (h2 : a = .nilIface → b = .nilIface → (isC x || isC y) = true) : (eqGuard op t x y a b).run P w = .ok () w := by
  cases op <;> first
    | (simp [eqGuard]; done)
    | (cases a <;> cases b <;> first
        | (simp [eqGuard]; done)
        | (have := h2 rfl rfl; cases x <;> cases y <;> simp_all [isC, eqGuard]; done)
        | (have := h1 _ _ rfl rfl; simp [eqGuard, this]))

section
variable (w : World) (n : Nat) {t : TypeId}
theorem eqI_nil_nil {ms} (hu : P.underlying t = some (.interface ms)) : (Op.equalIn (n + 1) t .nilIface .nilIface).run P w = .ok true w := by simp [Op.equalIn, run_underlying hu]
theorem eqI_val_nil {ms} (hu : P.underlying t = some (.interface ms)) (u : TypeId) (x : Value) : (Op.equalIn (n + 1) t (.iface u x) .nilIface).run P w = .ok false w := by simp [Op.equalIn, run_underlying hu]
theorem eqI_nil_val {ms} (hu : P.underlying t = some (.interface ms)) (u : TypeId) (x : Value) : (Op.equalIn (n + 1) t .nilIface (.iface u x)).run P w = .ok false w := by simp [Op.equalIn, run_underlying hu]
theorem eqI_int {ms} (hu : P.underlying t = some (.interface ms)) (u : TypeId) (k : IntKind) (i : TypeInfo) (hd : P.underlying u = some (.int k)) (hi : P.info? u = some i) (hc : i.comparable = true) (p q : Int) :
    (Op.equalIn (n + 2) t (.iface u (.int k p)) (.iface u (.int k q))).run P w = .ok (decide (p = q)) w := by
  simp [Op.equalIn, run_underlying hu, run_underlying hd, typeInfo, hi, hc]
  rfl
theorem eqI_pnil {e} (hu : P.underlying t = some (.pointer e)) (b : Option Addr) : (Op.equalIn (n + 1) t (.pointer b) (.pointer none)).run P w = .ok b.isNone w := by
  cases b <;> simp [Op.equalIn, run_underlying hu]
theorem eqI_snil {e} (hu : P.underlying t = some (.slice e)) (a : Option Addr) (m c : Nat) : (Op.equalIn (n + 1) t (.slice a m c) (.slice none 0 0)).run P w = .ok a.isNone w := by
  cases a <;> simp [Op.equalIn, run_underlying hu]
end

theorem hbin_goes (h : Sim w0 M σ w) (op : BinOp) {t : TypeId} {T : TI} (hT : ti P t = some T) (x y : Operand) {va vb : Value} {a b : D} (ha : Den M va a) (hb : Den M vb b) {K : D → Store → Prop}
    (hk : hbin P op t T (isC x || isC y) a b (K · σ)) : Goes P (do eqGuard op t x y va vb; binOp op t va vb) w0 M w K := by
  obtain ⟨d, hu, hkk⟩ := kk_desc hT
  unfold hbin at hk
  split at hk
  · -- whole numbers
    rename_i k p k' q
    have := den_lit_inv ha; subst this
    have := den_lit_inv hb; subst this
    have hg := guard_quiet (P := P) op t x y (.int k p) (.int k' q) w (by simp) (by simp)
    split at hk
    · cases op <;> simp_all only [isShift, shBin] <;> first | (cases ‹false = true›; done) | skip
      · refine Goes.pure h ?_ (.lit _) hk.2
        simp [hg, binOp, Op.shift, show ¬ q < 0 by omega]
      · refine Goes.pure h ?_ (.lit _) hk.2
        simp [hg, binOp, Op.shift, show ¬ q < 0 by omega]
    · obtain ⟨rfl, hk⟩ := hk
      cases op <;> simp only [intBin] at hk <;> first
        | exact hk.elim
        | (refine Goes.pure h ?_ (.lit _) hk; simp [hg, binOp, Op.intArith]; done)
        | (refine Goes.pure h ?_ (.lit _) hk.2; simp [hg, binOp, Op.intDiv, hk.1]; done)
        | (refine Goes.pure h ?_ (.lit _) hk; simp [hg, binOp, Op.intCmp]; done)
        | (refine Goes.pure h ?_ (.lit _) hk; simp [hg, binOp, Op.intCmp, Bool.beq_eq_decide_eq]; done)
        | (refine Goes.pure h ?_ (.lit _) hk; simp only [Sem.run_bind, hg, Result.andThen_ok, binOp, ne_eq, not_true_eq_false, if_false, Op.intCmp, Sem.run_pure]; rfl)
        | (refine Goes.pure h ?_ (.lit _) hk; simp only [Sem.run_bind, hg, Result.andThen_ok, binOp, ne_eq, not_true_eq_false, if_false, Op.intBits, Sem.run_pure])
  · -- texts
    rename_i p q
    have := den_lit_inv ha; subst this
    have := den_lit_inv hb; subst this
    have hg := guard_quiet (P := P) op t x y (.string p) (.string q) w (by simp) (by simp)
    cases op <;> simp only [strBin] at hk <;> first
      | exact hk.elim
      | skip
    · refine Goes.pure h ?_ (.lit _) hk.2
      have : ¬ (((p.size + q.size : Nat) : Int) > IntKind.i64.max) := by simp [IntKind.max, IntKind.signed, IntKind.bits]; omega
      simp only [Sem.run_bind, hg, Result.andThen_ok, binOp, Op.stringOp]
      rw [if_neg this]; rfl
    all_goals (refine Goes.pure h ?_ (.lit _) hk; simp [hg, binOp, Op.stringOp, toList_beq])
  · -- bools
    rename_i p q
    have := den_lit_inv ha; subst this
    have := den_lit_inv hb; subst this
    have hg := guard_quiet (P := P) op t x y (.bool p) (.bool q) w (by simp) (by simp)
    have hu2 : P.underlying t = some .bool := by
      rw [hu]; have := hk.1; rw [hkk] at this
      cases d <;> simp [kkOf, KK.isBool] at this
      rfl
    refine eqBin_goes h op t _ _ (decide (p = q)) hk.2 hg ?_ (by simp [binOp]) (by simp [binOp])
    have := run_equalIn_bool' w 9999 t p q hu2
    simp only [Op.equal, Op.maxDepth]
    rw [this]; cases p <;> cases q <;> rfl
  · -- nil, nil
    have := den_lit_inv ha; subst this
    have := den_lit_inv hb; subst this
    have hg := guard_quiet (P := P) op t x y .nilIface .nilIface w (by simp) (fun _ _ => hk.1.2)
    obtain ⟨⟨hi, -⟩, hk⟩ := hk
    refine eqBin_goes h op t _ _ true hk hg ?_ (by simp [binOp]) (by simp [binOp])
    rw [hkk] at hi
    cases d <;> simp [kkOf, KK.isIface] at hi
    exact eqI_nil_nil w 9999 hu
  · -- a value, nil
    have := den_lit_inv ha; subst this
    have := den_lit_inv hb; subst this
    rename_i u x'
    have hg := guard_quiet (P := P) op t x y (.iface u x') .nilIface w (by simp) (by simp)
    obtain ⟨hi, hk⟩ := hk
    refine eqBin_goes h op t _ _ false hk hg ?_ (by simp [binOp]) (by simp [binOp])
    rw [hkk] at hi
    cases d <;> simp [kkOf, KK.isIface] at hi
    exact eqI_val_nil w 9999 hu u x'
  · -- nil, a value
    have := den_lit_inv ha; subst this
    have := den_lit_inv hb; subst this
    rename_i u x'
    have hg := guard_quiet (P := P) op t x y .nilIface (.iface u x') w (by simp) (by simp)
    obtain ⟨hi, hk⟩ := hk
    refine eqBin_goes h op t _ _ false hk hg ?_ (by simp [binOp]) (by simp [binOp])
    rw [hkk] at hi
    cases d <;> simp [kkOf, KK.isIface] at hi
    exact eqI_nil_val w 9999 hu u x'
  · -- two numbers behind an interface
    have := den_lit_inv ha; subst this
    have := den_lit_inv hb; subst this
    rename_i t1 k p t2 k' q
    have hg := guard_quiet (P := P) op t x y (.iface t1 (.int k p)) (.iface t2 (.int k' q)) w (by simp) (by simp)
    obtain ⟨⟨hi, rfl, rfl, hkd, hcm⟩, hk⟩ := hk
    refine eqBin_goes h op t _ _ (decide (p = q)) hk hg ?_ (by simp [binOp]) (by simp [binOp])
    rw [hkk] at hi
    cases d <;> simp [kkOf, KK.isIface] at hi
    obtain ⟨i, hi1, hi2⟩ := Option.map_eq_some_iff.1 hcm
    unfold kindOf at hkd
    split at hkd
    · rename_i dd hdd
      cases dd <;> simp [kkOf] at hkd
      subst hkd
      exact eqI_int w 9998 hu t1 _ i hdd hi1 hi2 p q
    · cases hkd
  · -- nil pointers
    have := den_lit_inv ha; subst this
    have := den_lit_inv hb; subst this
    have hg := guard_quiet (P := P) op t x y (.pointer none) (.pointer none) w (by simp) (by simp)
    obtain ⟨hi, hk⟩ := hk
    refine eqBin_goes h op t _ _ true hk hg ?_ (by simp [binOp]) (by simp [binOp])
    rw [hkk] at hi
    cases d <;> simp [kkOf, KK.isPtr] at hi
    exact eqI_pnil w 9999 hu _
  · -- a pointer, nil
    have := den_lit_inv ha; subst this
    have := den_lit_inv hb; subst this
    rename_i p
    have hg := guard_quiet (P := P) op t x y (.pointer (some p)) (.pointer none) w (by simp) (by simp)
    obtain ⟨hi, hk⟩ := hk
    refine eqBin_goes h op t _ _ false hk hg ?_ (by simp [binOp]) (by simp [binOp])
    rw [hkk] at hi
    cases d <;> simp [kkOf, KK.isPtr] at hi
    exact eqI_pnil w 9999 hu _
  · -- a pointer into what stays, nil
    have := den_lit_inv hb; subst this
    obtain ⟨b', o', rfl, -⟩ := holds_iptr h ha
    have hg := guard_quiet (P := P) op t x y (.pointer (some ⟨b', o', none⟩)) (.pointer none) w (by simp) (by simp)
    obtain ⟨hi, hk⟩ := hk
    refine eqBin_goes h op t _ _ false hk hg ?_ (by simp [binOp]) (by simp [binOp])
    rw [hkk] at hi
    cases d <;> simp [kkOf, KK.isPtr] at hi
    exact eqI_pnil w 9999 hu _
  · -- a slice, nil
    rename_i es tok
    obtain ⟨a1, c1, k1, b1, o1, cv1, rfl, -, -, ha1, -, -, -, ht1⟩ := den_list_inv ha
    obtain ⟨a2, c2, k2, b2, o2, cv2, rfl, -, -, -, -, -, -, ht2⟩ := den_list_inv hb
    simp only [TokOk] at ht2
    obtain ⟨rfl, -, rfl⟩ := ht2
    have hg := guard_quiet (P := P) op t x y (.slice a1 es.length c1) (.slice none 0 0) w (by simp) (by simp)
    obtain ⟨hi, hk⟩ := hk
    refine eqBin_goes h op t _ _ a1.isNone (hk _ (fun e => ?_) (fun e => ?_)) hg ?_ (by simp [binOp]) (by simp [binOp])
    · cases es with
      | nil => rfl
      | cons e0 es => rw [ha1 (by simp)] at e; cases e
    · subst e; rw [ht1.1]; rfl
    · rw [hkk] at hi
      cases d <;> simp [kkOf, KK.isSlice] at hi
      exact eqI_snil w 9999 hu _ _ _
  · -- structs
    rename_i xs ys
    split at hk
    · rename_i r hr
      obtain ⟨ks, hks, hr⟩ := Option.bind_eq_some_iff.1 hr
      unfold eqKinds at hks
      rw [hu] at hks
      cases d <;> simp only at hks <;> first | (cases hks; done) | skip
      rename_i fs
      split at hks
      · rename_i hc
        obtain ⟨c1, c2, c3, c4⟩ := hc
        injection hks with hks
        subst hks
        cases ha with
        | agg va _ sa oa da =>
        cases hb with
        | agg vb _ sb ob db =>
        have hg := guard_quiet (P := P) op t x y (.agg va) (.agg vb) w (fun _ _ _ _ => c2) (by simp)
        refine eqBin_goes h op t _ _ r hk hg ?_ (by simp [binOp]) (by simp [binOp])
        have hf : P.fieldsOf t = fs := by simp [Program.fieldsOf, hu]
        have := run_equalIn_struct (P := P) w 9999 t va vb (by rw [hf]; exact hu) c1
        simp only [Op.equal, Op.maxDepth]
        rw [this, hf]
        exact eqFields_run (M := M) 9998 w fs.toList 0 va vb xs ys r c3 (by rw [c4, List.range_eq_range']) (fun i d hd => by rw [Nat.zero_add]; exact da i d hd) (fun i d hd => by rw [Nat.zero_add]; exact db i d hd) (by omega) (by omega) hr
      · cases hks
    · exact hk.elim
  · exact hk.elim
end Go.HL
/- HL, part F: building, appending, and the rest. -/
set_option linter.unusedVariables false
set_option linter.unusedSimpArgs false
namespace Go.HL
open Go.RowKit
variable {P : Program} {w0 w : World} {M : Mem} {σ : Store}

/-- An array of cells, told one by one. -/
structure Pts (M : Mem) (cs : Array Value) (ds : List D) : Prop where
  size : cs.size = ds.length
  one : ∀ i, i < cs.size → (cs.getD i undef).oneCell' = true
  den : ∀ i d, ds[i]? = some d → Den M (cs.getD i undef) d
theorem Pts.mono {M M' : Mem} (hM : MLe M M') {cs : Array Value} {ds : List D} (h : Pts M cs ds) : Pts M' cs ds := ⟨h.size, h.one, fun i d hd => (h.den i d hd).mono hM⟩
theorem den_pts {v : Value} {d : D} (h : Den M v d) (hd : fitD d = true) : Pts M v.cells (cellsD d) := by
  obtain ⟨h1, h2, h3⟩ := den_cells h hd; exact ⟨h1, h2, h3⟩

theorem getD_foldl_set (vs : List (Value × Nat)) (off : Nat) (n0 : Nat) (xs : List Value) (hv : vs = xs.zipIdx n0) : ∀ (cs : Array Value) (p : Nat), (vs.foldl (fun cs (c, j) => cs.setIfInBounds (off + j) c) cs).size = cs.size ∧
    ((vs.foldl (fun cs (c, j) => cs.setIfInBounds (off + j) c) cs).getD p undef = if off + n0 ≤ p ∧ p < off + n0 + xs.length ∧ p < cs.size then xs.getD (p - (off + n0)) undef else cs.getD p undef) := by
  induction xs generalizing vs n0 with
  | nil => intro cs p; subst hv; simp; intro h1 h2; omega
  | cons x xs ih =>
    intro cs p
    subst hv
    simp only [List.zipIdx_cons, List.foldl_cons]
    obtain ⟨i1, i2⟩ := ih (xs.zipIdx (n0 + 1)) (n0 + 1) rfl (cs.setIfInBounds (off + n0) x) p
    refine ⟨by rw [i1]; simp, ?_⟩
    rw [i2]
    simp only [Array.size_setIfInBounds, List.length_cons]
    by_cases h1 : off + (n0 + 1) ≤ p ∧ p < off + (n0 + 1) + xs.length ∧ p < cs.size
    · rw [if_pos h1, if_pos (by omega)]
      rw [show p - (off + n0) = (p - (off + (n0 + 1))) + 1 from by omega]
      simp
    · rw [if_neg h1]
      by_cases h2 : p = off + n0
      · subst h2
        by_cases h3 : off + n0 < cs.size
        · rw [if_pos (by omega)]
          simp [Array.getD, h3]
        · rw [if_neg (by omega)]
          simp [Array.getD, h3]
      · rw [if_neg (by omega)]
        simp only [Array.getD_eq_getD_getElem?]
        rw [Array.getElem?_setIfInBounds_ne (by omega)]

theorem Pts.put {cs : Array Value} {ds : List D} (h : Pts M cs ds) {vs : Array Value} {xs : List D} (hv : Pts M vs xs) (off : Nat) (hf : off + xs.length ≤ ds.length) :
    Pts M (vs.zipIdx.foldl (fun cs (c, j) => cs.setIfInBounds (off + j) c) cs) (spl ds off xs) := by
  have key := getD_foldl_set (vs.zipIdx).toList off 0 vs.toList (by simp) cs
  rw [← Array.foldl_toList]
  have hs := h.size
  have hvs := hv.size
  have hgetD : ∀ i, (spl ds off xs)[i]? = if i < off then ds[i]? else if i < off + xs.length then xs[i - off]? else ds[i]? := by
    intro i
    unfold spl
    rw [List.append_assoc, List.getElem?_append]
    have h2 : (ds.take off).length = off := by simp; omega
    rw [h2]
    split
    · rename_i hi; rw [List.getElem?_take, if_pos hi]
    · rename_i hi
      rw [List.getElem?_append]
      split
      · rename_i hi2; rw [if_pos (by omega)]
      · rename_i hi2; rw [if_neg (by omega), List.getElem?_drop, show off + xs.length + (i - off - xs.length) = i from by omega]
  have hval : ∀ p, p < cs.size → (vs.zipIdx.toList.foldl (fun cs (c, j) => cs.setIfInBounds (off + j) c) cs).getD p undef = if off ≤ p ∧ p < off + xs.length then vs.getD (p - off) undef else cs.getD p undef := by
    intro p hp
    rw [(key p).2]
    simp only [Nat.add_zero, Array.length_toList]
    by_cases hc : off ≤ p ∧ p < off + xs.length
    · rw [if_pos (by omega), if_pos hc]
      simp [List.getD_eq_getElem?_getD, Array.getD_eq_getD_getElem?]
    · rw [if_neg (by omega), if_neg hc]
  refine ⟨by rw [(key 0).1, spl_length _ _ _ hf, hs], fun i hi => ?_, fun i d hd => ?_⟩
  · rw [(key 0).1] at hi
    rw [hval i hi]
    by_cases hc : off ≤ i ∧ i < off + xs.length
    · rw [if_pos hc]; exact hv.one _ (by omega)
    · rw [if_neg hc]; exact h.one i hi
  · have hlt : i < ds.length := by have := (List.getElem?_eq_some_iff.1 hd).1; rwa [spl_length _ _ _ hf] at this
    rw [hval i (by omega)]
    rw [hgetD] at hd
    by_cases hc : off ≤ i ∧ i < off + xs.length
    · rw [if_neg (by omega), if_pos hc.2] at hd; rw [if_pos hc]; exact hv.den _ d hd
    · rw [if_neg hc]
      by_cases hc2 : i < off
      · rw [if_pos hc2] at hd; exact h.den i d hd
      · rw [if_neg hc2, if_neg (by omega)] at hd; exact h.den i d hd

def fillD (place : Nat → Option (Nat × Nat)) : List D → List (Nat × D) → Option (List D)
  | ds, [] => some ds
  | ds, (i, d) :: rest =>
    match place i with
    | none => none
    | some (off, size) => if fitD d = true ∧ (cellsD d).length = size ∧ off + size ≤ ds.length then fillD place (spl ds off (cellsD d)) rest else none

theorem fill_pts (place : Nat → Option (Nat × Nat)) : ∀ (parts : List (Nat × Value)) (pd : List (Nat × D)) (cs : Array Value) (ds ds' : List D), Pts M cs ds → parts.length = pd.length →
    (∀ (j i : Nat) (v : Value) (k : Nat) (d : D), parts[j]? = some (i, v) → pd[j]? = some (k, d) → i = k ∧ Den M v d) → fillD place ds pd = some ds' → ∃ cs', Instr.fill place cs parts = some cs' ∧ Pts M cs' ds' := by
  intro parts
  induction parts with
  | nil =>
    intro pd cs ds ds' h hl _ he
    cases pd with
    | nil => simp [fillD] at he; subst he; exact ⟨cs, rfl, h⟩
    | cons => simp at hl
  | cons p parts ih =>
    intro pd cs ds ds' h hl hp he
    obtain ⟨i, v⟩ := p
    cases pd with
    | nil => simp at hl
    | cons q pd =>
      obtain ⟨k, d⟩ := q
      obtain ⟨rfl, hd⟩ := hp 0 i v k d rfl rfl
      simp only [fillD] at he
      split at he
      · cases he
      · rename_i off size hpl
        split at he
        · rename_i hc
          obtain ⟨c1, c2, c3⟩ := hc
          have hpt := den_pts hd c1
          have := h.put hpt off (by omega)
          obtain ⟨cs', e1, e2⟩ := ih pd _ _ ds' this (by simpa using hl) (fun j i' v' k' d' h1 h2 => hp (j + 1) i' v' k' d' (by simpa using h1) (by simpa using h2)) he
          refine ⟨cs', ?_, e2⟩
          have s1 := hpt.size
          have s2 := h.size
          simp only [Instr.fill, hpl]
          rw [if_neg (by simp; omega)]
          exact e1
        · cases he

/-! build -/
theorem run_mapM_ok {α β : Type} (f : α → Sem β) (g : α → β) (w : World) (xs : Array α) (h : ∀ x ∈ xs, (f x).run P w = .ok (g x) w) : (xs.mapM f).run P w = .ok (xs.map g) w := by
  rw [Array.mapM_eq_mapM_toList]
  have : ∀ l : List α, (∀ x ∈ l, (f x).run P w = .ok (g x) w) → (l.mapM f).run P w = .ok (l.map g) w := by
    intro l
    induction l with
    | nil => intro _; simp
    | cons x l ih =>
      intro hl
      have h1 := hl x (by simp)
      have h2 := ih (fun y hy => hl y (by simp [hy]))
      simp [List.mapM_cons, h1, h2]
  rw [Sem.run_map, this xs.toList (fun x hx => h x (by simpa using hx))]
  simp only [Result.andThen_ok, ← Array.toList_map, Array.toArray_toList]

def hbuild (T : TI) (parts : List (Nat × D)) (K : D → Prop) : Prop :=
  match T.kk, T.zero with
  | .struct, some z => match fillD (fun i => (T.flds[i]?).map fun (f : Nat × Nat × Bool) => (f.1, f.2.1)) z parts with
    | some ds => K (.agg ds)
    | none => False
  | _, _ => False

theorem pts_zero {t : TypeId} {T : TI} (hT : ti P t = some T) (hz : zfit P t = true) {zs : List D} (e : T.zero = some zs) : ∃ z i, P.info? t = some i ∧ i.zero = some z ∧ Pts M z.cells zs := by
  obtain ⟨i, d, hi, hd, -, -, -, e4, -⟩ := ti_some hT
  rw [e] at e4
  cases hz0 : i.zero with
  | none => rw [hz0] at e4; cases e4
  | some z =>
    rw [hz0] at e4
    injection e4 with e4
    subst e4
    refine ⟨z, i, hi, hz0, by simp, fun j hj => ?_, fun j x hx => ?_⟩
    · simp only [zfit, hi, Option.bind_some, hz0] at hz
      rw [Array.all_eq_true] at hz
      have := hz j hj
      simpa [Array.getD, hj] using this
    · rw [List.getElem?_map] at hx
      obtain ⟨y, hy, rfl⟩ := Option.map_eq_some_iff.1 hx
      have : z.cells.getD j undef = y := by
        rw [Array.getElem?_toList] at hy
        simp [Array.getD, (Array.getElem?_eq_some_iff.1 hy).1, (Array.getElem?_eq_some_iff.1 hy).2]
      rw [this]; exact den_zD1 y

/-- All of a struct's fields have types that are known. -/
def fldsKnown (P : Program) (t : TypeId) : Bool := match P.underlying t with
  | some (.struct fs) => fs.all fun f => (P.info? f.type).isSome && (P.underlying f.type).isSome
  | _ => false

theorem build_goes (h : Sim w0 M σ w) {t : TypeId} {T : TI} (hT : ti P t = some T) (hz : zfit P t = true) (hfk : fldsKnown P t = true) (parts : Array (Nat × Value)) (pd : List (Nat × D)) (hl : parts.size = pd.length)
    (hp : ∀ (j i : Nat) (v : Value) (k : Nat) (d : D), parts[j]? = some (i, v) → pd[j]? = some (k, d) → i = k ∧ Den M v d) {K : D → Store → Prop} (hk : hbuild T pd (K · σ)) : Goes P (Instr.build t parts) w0 M w K := by
  unfold hbuild at hk
  split at hk
  · rename_i zs hkk hzs
    split at hk
    · rename_i ds hds
      obtain ⟨z, i, hi, hz0, hpz⟩ := pts_zero (M := M) hT hz hzs
      obtain ⟨i', d, hi', hd, e1, -, -, -, e5⟩ := ti_some hT
      rw [hi] at hi'; injection hi' with hi'; subst hi'
      rw [hkk] at e1
      cases d <;> simp [kkOf] at e1
      rename_i fs
      simp only [fldsKnown, hd, Array.all_eq_true] at hfk
      have hmap : (fs.mapM fun f => (do pure (f.offset, ← sizeOf f.type) : Sem (Nat × Nat))).run P w = .ok (fs.map fun f => (f.offset, ((P.info? f.type).map (·.size)).getD 0)) w := by
        refine run_mapM_ok _ _ w fs (fun f hf => ?_)
        obtain ⟨j, hj, rfl⟩ := Array.getElem_of_mem hf
        have := hfk j hj
        simp at this
        obtain ⟨a1, a2⟩ := this
        obtain ⟨q, hq⟩ := Option.isSome_iff_exists.1 a1
        simp [run_sizeOf hq, hq]
      have hplace : (fun (i : Nat) => (T.flds[i]?).map fun (f : Nat × Nat × Bool) => (f.1, f.2.1)) = fun (i : Nat) => ((fs.map fun f => (f.offset, ((P.info? f.type).map (·.size)).getD 0))[i]?) := by
        funext j
        rw [e5]
        simp only [fldsOf, List.getElem?_map, Array.getElem?_toList, Option.map_map, Array.getElem?_map]
        cases hj : fs[j]? with
        | none => rfl
        | some f =>
          obtain ⟨hj1, hj2⟩ := Array.getElem?_eq_some_iff.1 hj
          have := hfk j hj1
          simp [hj2] at this
          simp [this.2]
      rw [hplace] at hds
      obtain ⟨cs', f1, f2⟩ := fill_pts (M := M) _ parts.toList pd z.cells zs ds hpz (by simpa using hl) (fun j i v k d h1 h2 => hp j i v k d (by simpa using h1) h2) hds
      refine Goes.pure h (v := .agg cs') ?_ (.agg _ _ f2.size f2.one f2.den) hk
      simp only [Instr.build, Sem.run_bind, run_zeroValue hi hz0, Result.andThen_ok, run_underlying hd, hmap]
      simp only [f1, Sem.run_pure]
    · exact hk.elim
  · exact hk.elim
end Go.HL
/- HL, part G: new rows, and appending. -/
set_option linter.unusedVariables false
set_option linter.unusedSimpArgs false
namespace Go.HL
open Go.RowKit
variable {P : Program} {w0 w : World} {M : Mem} {σ : Store}

/-- The first m cells of block b stay as they are from now on. -/
def Mem.pub (M : Mem) (b m : Nat) (cs : Array Value) : Mem := fun x o => if x = b then (if o < m then cs[o]? else none) else M x o
theorem Mem.pub_le {M : Mem} {b m : Nat} {cs : Array Value} (h : ∀ o v, M b o = some v → o < m ∧ cs[o]? = some v) : MLe M (M.pub b m cs) := fun x o v e => by
  unfold Mem.pub
  split
  · rename_i hx; subst hx
    obtain ⟨h1, h2⟩ := h o v e
    rw [if_pos h1, h2]
  · exact e

theorem Sim.alloc_pub (h : Sim w0 M σ w) (cs : Array Value) (t : TypeId) (m : Nat) (hone : ∀ i, i < m → i < cs.size → (cs.getD i undef).oneCell' = true) :
    Sim w0 (M.pub w.heap.size m cs) σ (w.alloc (.cells cs t)) ∧ MLe M (M.pub w.heap.size m cs) := by
  have hle : MLe M (M.pub w.heap.size m cs) := Mem.pub_le (fun o v e => by rw [h.freshM _ (Nat.le_refl _)] at e; cases e)
  have g := h.alloc_garbage (.cells cs t)
  have hne : ∀ b o, σ b = some o → b ≠ w.heap.size := fun b o e => by have := h.lt e; omega
  refine ⟨⟨g.base, g.low, fun b o v e => ?_, fun b ds e => ?_, fun b n c k e => ?_, g.maps⟩, hle⟩
  · unfold Mem.pub at e
    split at e
    · rename_i hb; subst hb
      split at e
      · rename_i ho
        refine ⟨?_, ?_⟩
        · rw [cell_of_row _ _ o cs t (0, 0) (heap_push_at w _)]; exact e
        · obtain ⟨h1, h2⟩ := Array.getElem?_eq_some_iff.1 e
          have := hone o ho h1
          rw [← h2]; simpa [Array.getD, h1] using this
      · cases e
    · exact g.mem b o v e
  · obtain ⟨cs', t', h1, h2, h3, h4, h5⟩ := g.cells b ds e
    refine ⟨cs', t', h1, h2, h3, fun i d hd => (h4 i d hd).mono hle, fun o => ?_⟩
    unfold Mem.pub
    rw [if_neg (hne b _ e)]; exact h5 o
  · obtain ⟨cs', t', h1, h2, h3, h4⟩ := g.spare b n c k e
    refine ⟨cs', t', h1, h2, h3, fun o ho => ?_⟩
    unfold Mem.pub
    rw [if_neg (hne b _ e)]; exact h4 o ho

theorem Sim.add_spare (h : Sim w0 M σ w) (b n c k : Nat) (hb : σ b = none) (hl : w0.heap.size ≤ b) (hs : ∃ cs t, w.heap[b]? = some (.cells cs t (0, 0)) ∧ cs.size = c * k ∧ n ≤ c ∧ ∀ o, n * k ≤ o → M b o = none) :
    Sim w0 M (σ.set b (.spare n c k)) w := by
  have hn : ∀ x o, (σ.set b (.spare n c k)) x = some o → x ≠ b → σ x = some o := fun x o e hne => by rwa [Store.set_ne _ _ _ _ hne] at e
  refine ⟨h.base, fun x o e => ?_, h.mem, fun x ds e => ?_, fun x n' c' k' e => ?_, fun x es e => ?_⟩
  · by_cases hx : x = b
    · subst hx; exact hl
    · exact h.low x o (hn x o e hx)
  · by_cases hx : x = b
    · subst hx; rw [Store.set_same] at e; cases e
    · exact h.cells x ds (hn x _ e hx)
  · by_cases hx : x = b
    · subst hx
      rw [Store.set_same] at e
      injection e with e
      injection e with e1 e2 e3
      subst e1; subst e2; subst e3
      exact hs
    · exact h.spare x n' c' k' (hn x _ e hx)
  · by_cases hx : x = b
    · subst hx; rw [Store.set_same] at e; cases e
    · exact h.maps x es (hn x _ e hx)

/-- Cells in pieces of one size. -/
def chunk : Nat → Nat → List D → List (List D)
  | 0, _, _ => []
  | n + 1, k, ds => ds.take k :: chunk n k (ds.drop k)
theorem chunk_length (n k : Nat) (ds : List D) : (chunk n k ds).length = n := by
  induction n generalizing ds with
  | zero => rfl
  | succ n ih => simp [chunk, ih]
theorem chunk_get (n k : Nat) (ds : List D) (i : Nat) (h : i < n) : (chunk n k ds)[i]? = some ((ds.drop (i * k)).take k) := by
  induction n generalizing ds i with
  | zero => omega
  | succ n ih =>
    cases i with
    | zero => simp [chunk]
    | succ i =>
      simp only [chunk, List.getElem?_cons_succ]
      rw [ih _ i (by omega), List.drop_drop]
      congr 3
      rw [Nat.succ_mul]; omega

/-- Flat cells as elements. -/
theorem den_new_list {b n c k : Nat} {cs : Array Value} {ds : List D} (hp : Pts (M.pub b (n * k) cs) cs ds) (hl : n * k ≤ ds.length) (hnc : n ≤ c) (hc2 : c ≤ 9223372036854775807) (tok : Tok) (es : List (List D)) (hes : es.length = n)
    (hk : ∀ (i : Nat) (e : List D), es[i]? = some e → e.length = k) (he : ∀ (i : Nat) (e : List D) (j : Nat) (d : D), es[i]? = some e → e[j]? = some d → ds[i * k + j]? = some d) (ht : TokOk tok (some ⟨b, 0, none⟩) n c k) :
    Den (M.pub b (n * k) cs) (.slice (some ⟨b, 0, none⟩) n c) (.list es tok) := by
  refine .list _ n c k b 0 es tok (fun i j => cs.getD (i * k + j) undef) hes.symm hnc hc2 (fun _ => rfl) hk (fun i j hi hj => ?_) (fun i e j d h1 h2 => hp.den _ d (he i e j d h1 h2)) ht
  unfold Mem.pub
  have hlt : i * k + j < n * k := by
    calc i * k + j < i * k + k := by omega
      _ = (i + 1) * k := by rw [Nat.succ_mul]
      _ ≤ n * k := Nat.mul_le_mul_right _ hi
  have hs := hp.size
  rw [if_pos rfl, Nat.zero_add, if_pos hlt]
  simp [Array.getD, show i * k + j < cs.size by omega]

theorem chunk_cells (n k : Nat) (ds : List D) (hl : n * k ≤ ds.length) : (∀ (i : Nat) (e : List D), (chunk n k ds)[i]? = some e → e.length = k) ∧ (∀ (i : Nat) (e : List D) (j : Nat) (d : D), (chunk n k ds)[i]? = some e → e[j]? = some d → ds[i * k + j]? = some d) := by
  have hb : ∀ (i : Nat) (e : List D), (chunk n k ds)[i]? = some e → i < n ∧ e = (ds.drop (i * k)).take k := fun i e he => by
    have hi : i < n := by have := (List.getElem?_eq_some_iff.1 he).1; rwa [chunk_length] at this
    rw [chunk_get n k ds i hi] at he
    injection he with he
    exact ⟨hi, he.symm⟩
  refine ⟨fun i e he => ?_, fun i e j d he hd => ?_⟩
  · obtain ⟨hi, rfl⟩ := hb i e he
    have : i * k + k ≤ n * k := by rw [← Nat.succ_mul]; exact Nat.mul_le_mul_right _ hi
    simp; omega
  · obtain ⟨hi, rfl⟩ := hb i e he
    rw [List.getElem?_take] at hd
    split at hd
    · rwa [List.getElem?_drop] at hd
    · cases hd

/-! buildSlice -/
def zrep (n : Nat) (z : List D) : List D := (List.replicate n z).flatten
def hbuildSlice (lm : Bool) (E : TI) (n : Nat) (parts : List (Nat × D)) (σ : Store) (K : D → Store → Prop) : Prop :=
  match E.zero with
  | some z => (n * E.size ≤ 16777216 ∧ n ≤ 16777216) ∧ z.length = E.size ∧ match fillD (fun i => some (i * E.size, E.size)) (zrep n z) parts with
    | some ds => if lm then ∀ b, σ b = none → K (.lit (.slice (some ⟨b, 0, none⟩) n n)) (σ.set b (.cells ds)) else K (.list (chunk n E.size ds) .full) σ
    | none => False
  | none => False

theorem zrep_get (n : Nat) (z : List D) (i : Nat) (h : i < n * z.length) : (zrep n z)[i]? = z[i % z.length]? := by
  induction n generalizing i with
  | zero => simp at h
  | succ n ih =>
    simp only [zrep, List.replicate_succ, List.flatten_cons]
    rw [List.getElem?_append]
    split
    · rename_i hi; rw [Nat.mod_eq_of_lt hi]
    · rename_i hi
      rw [Nat.succ_mul] at h
      have := ih (i - z.length) (by omega)
      rw [zrep] at this
      rw [this, Nat.mod_eq_sub_mod (by omega : i ≥ z.length)]
theorem zrep_length (n : Nat) (z : List D) : (zrep n z).length = n * z.length := by
  induction n with
  | zero => simp [zrep]
  | succ n ih => simp only [zrep, List.replicate_succ, List.flatten_cons, List.length_append]; rw [zrep] at ih; rw [ih, Nat.succ_mul]; omega

theorem pts_zeros {z : Array Value} {zs : List D} (h : Pts M z zs) (n m : Nat) (hm : m = n * zs.length) : Pts M ((Array.range m).map (z[· % z.size]!)) (zrep n zs) := by
  subst hm
  have hs := h.size
  have key : ∀ i, i < n * zs.length → ((Array.range (n * zs.length)).map (z[· % z.size]!)).getD i undef = z.getD (i % z.size) undef := fun i hi => by
    have hpos : 0 < zs.length := by
      rcases Nat.eq_zero_or_pos zs.length with h0 | h0
      · rw [h0] at hi; simp at hi
      · exact h0
    have : i % z.size < z.size := Nat.mod_lt _ (by omega)
    simp [Array.getD, hi, this]
  refine ⟨by simp [zrep_length], fun i hi => ?_, fun i d hd => ?_⟩
  · simp at hi
    rw [key i hi]
    refine h.one _ (Nat.mod_lt _ ?_)
    rcases Nat.eq_zero_or_pos z.size with h0 | h0
    · rw [← hs, h0] at hi; simp at hi
    · exact h0
  · have hi : i < n * zs.length := by have := (List.getElem?_eq_some_iff.1 hd).1; rwa [zrep_length] at this
    rw [key i hi]
    rw [zrep_get n zs i hi] at hd
    rw [hs]
    exact h.den _ d hd

theorem buildSlice_goes (h : Sim w0 M σ w) {t e : TypeId} {T E : TI} (hT : ti P t = some T) (hE : ti P e = some E) (hkk : T.kk = .slice e) (hz : zfit P e = true) (lm : Bool) (n : Nat) (parts : Array (Nat × Value)) (pd : List (Nat × D)) (hl : parts.size = pd.length)
    (hp : ∀ (j i : Nat) (v : Value) (k : Nat) (d : D), parts[j]? = some (i, v) → pd[j]? = some (k, d) → i = k ∧ Den M v d) {K : D → Store → Prop} (hk : hbuildSlice lm E n pd σ K) : Goes P (Instr.buildSlice t n parts) w0 M w K := by
  unfold hbuildSlice at hk
  split at hk
  · rename_i zs hzs
    obtain ⟨⟨hlim, hn0⟩, hzl, hk⟩ := hk
    split at hk
    · rename_i ds hds
      obtain ⟨z, i, hi, hz0, hpz⟩ := pts_zero (M := M) hE hz hzs
      obtain ⟨i', d, hi', hd, e1, e2, -, -, -⟩ := ti_some hE
      rw [hi] at hi'; injection hi' with hi'; subst hi'
      have hu := kk_slice hT hkk
      have hpts0 : Pts M ((Array.range (n * i.size)).map ((if n * i.size = 0 then #[] else z.cells)[· % (if n * i.size = 0 then #[] else z.cells).size]!)) (zrep n zs) := by
        by_cases h0 : n * i.size = 0
        · simp only [h0, if_true]
          have : zrep n zs = [] := List.eq_nil_of_length_eq_zero (by rw [zrep_length, hzl, e2]; exact h0)
          rw [this]
          exact ⟨by simp, fun j hj => by simp at hj, fun j d hd => by simp at hd⟩
        · simp only [h0, if_false]
          exact pts_zeros hpz n _ (by rw [hzl, e2])
      rw [e2] at hds
      obtain ⟨cs', f1, f2⟩ := fill_pts (M := M) _ parts.toList pd _ (zrep n zs) ds hpts0 (by simpa using hl) (fun j i v k d h1 h2 => hp j i v k d (by simpa using h1) h2) hds
      have hdl : ds.length = n * i.size := by
        have : ∀ (pd : List (Nat × D)) (a b : List D), fillD (fun j => some (j * i.size, i.size)) a pd = some b → b.length = a.length := by
          intro pd
          induction pd with
          | nil => intro a b hh; simp [fillD] at hh; rw [hh]
          | cons q pd ih =>
            intro a b hh
            obtain ⟨j, x⟩ := q
            simp only [fillD] at hh
            split at hh
            · rename_i hc; rw [ih _ _ hh, spl_length _ _ _ (by omega)]
            · cases hh
        rw [this pd _ _ hds, zrep_length, hzl, e2]
      have hrun : (Instr.buildSlice t n parts).run P w = .ok (.slice (some ⟨w.heap.size, 0, none⟩) n n) (w.alloc (.cells cs' e)) := by
        have hlim' : ¬ (n * i.size > 2 ^ 24) := by rw [← e2]; omega
        simp only [Instr.buildSlice, Sem.run_bind, run_underlying hu, Result.andThen_ok, run_sizeOf hi]
        rw [if_neg hlim']
        by_cases h0 : n * i.size = 0
        · rw [if_pos h0] at f1 ⊢
          simp only [Sem.run_bind, Sem.run_pure, Result.andThen_ok]
          rw [f1]
          simp only [Sem.run_bind, newRow, run_newObj, Result.andThen_ok, Sem.run_pure, World.alloc_eq]
        · rw [if_neg h0] at f1 ⊢
          simp only [Sem.run_bind, Sem.run_pure, Result.andThen_ok, run_zeroValue hi hz0]
          rw [f1]
          simp only [Sem.run_bind, newRow, run_newObj, Result.andThen_ok, Sem.run_pure, World.alloc_eq]
      split at hk
      · exact ⟨_, _, M, _, _, hrun, MLe.refl M, h.alloc_cells cs' e ds f2.size f2.one f2.den, .lit _, hk _ h.fresh⟩
      · rw [e2] at hk
        obtain ⟨g1, g2⟩ := h.alloc_pub cs' e (n * i.size) (fun j _ hj => f2.one j hj)
        obtain ⟨c1, c2⟩ := chunk_cells n i.size ds (by omega)
        have hn63 : n ≤ 9223372036854775807 := by omega
        exact ⟨_, _, _, _, _, hrun, g2, g1, den_new_list (f2.mono g2) (by omega) (Nat.le_refl n) hn63 .full _ (chunk_length _ _ _) c1 c2 rfl, hk⟩
    · exact hk.elim
  · exact hk.elim

/-! append -/
def bytesD (s : ByteArray) : List (List D) := s.data.toList.map fun b => [D.int .u8 (b.toNat : Int)]
/-- The elements that are appended. -/
def srcE (k : Nat) (x : D) (σ : Store) : Option (List (List D)) :=
  match x with
  | .list xs _ => some xs
  | .lit (.slice (some ⟨b, o, none⟩) m _) => match σ b with
    | some (.cells ds) => if o + m * k ≤ ds.length then some (chunk m k (ds.drop o)) else none
    | _ => none
  | .lit (.string s) => some (bytesD s)
  | _ => none

theorem flatten_get {k : Nat} (xs : List (List D)) (h : ∀ e ∈ xs, e.length = k) : xs.flatten.length = xs.length * k ∧ ∀ (i : Nat) (e : List D) (j : Nat), xs[i]? = some e → j < k → xs.flatten[i * k + j]? = e[j]? := by
  induction xs with
  | nil => simp
  | cons x xs ih =>
    obtain ⟨h1, h2⟩ := ih (fun e he => h e (by simp [he]))
    have hx := h x (by simp)
    refine ⟨by simp [h1, hx, Nat.succ_mul]; omega, fun i e j he hj => ?_⟩
    simp only [List.flatten_cons]
    cases i with
    | zero => simp at he; subst he; rw [Nat.zero_mul, Nat.zero_add, List.getElem?_append_left (by omega)]
    | succ i =>
      simp at he
      rw [List.getElem?_append_right (by rw [hx, Nat.succ_mul]; omega), hx, show (i + 1) * k + j - k = i * k + j from by rw [Nat.succ_mul]; omega]
      exact h2 i e j he hj

theorem chunk_flatten (n k : Nat) (ds : List D) (h : n * k ≤ ds.length) : (chunk n k ds).flatten = ds.take (n * k) := by
  induction n generalizing ds with
  | zero => simp [chunk]
  | succ n ih =>
    rw [Nat.succ_mul] at h
    simp only [chunk, List.flatten_cons]
    rw [ih _ (by simp; omega), Nat.succ_mul, Nat.add_comm, List.take_add]

/-- What is appended, as the machine reads it. -/
theorem src_reads (h : Sim w0 M σ w) {v : Value} {x : D} (hv : Den M v x) {k : Nat} {xs : List (List D)} (hs : srcE k x σ = some xs) (hk : SizedAs x k) (hk1 : ∀ s, x = .str s → k = 1) (hpos : 0 < k) :
    (Builtin.lenOf v).run P w = .ok xs.length w ∧ (∀ e ∈ xs, e.length = k) ∧ ∃ news : Array Value, (Builtin.firstCells k xs.length v).run P w = .ok news w ∧ Pts M news xs.flatten := by
  unfold srcE at hs
  split at hs
  · rename_i xs' tok
    injection hs with hs; subst hs
    obtain ⟨a, c, k', b, o, cv, rfl, hc, hc2, ha, hlen, hm, hd, ht⟩ := den_list_inv hv
    obtain ⟨f1, f2⟩ := flatten_get xs' hk
    refine ⟨by simp [Builtin.lenOf], hk, ?_⟩
    rcases Nat.eq_zero_or_pos xs'.length with h0 | h0
    · have : xs' = [] := List.eq_nil_of_length_eq_zero h0
      subst this
      refine ⟨#[], ?_, by simp, by intro i hi; simp at hi, by intro i d hd; simp at hd⟩
      cases a <;> simp [Builtin.firstCells, loadCells, loadCellsFrom]
    · obtain rfl := ha h0
      have hk' : k' = k := by rw [← hlen 0 _ (List.getElem?_eq_getElem h0)]; exact hk _ (List.getElem_mem h0)
      subst hk'
      have hh : Holds M w b o xs'.flatten := by
        refine ⟨fun p => cv (p / k') (p % k'), fun p hp => ?_⟩
        rw [f1] at hp
        have hq : p / k' < xs'.length := Nat.div_lt_of_lt_mul (by rw [Nat.mul_comm]; exact hp)
        have hr : p % k' < k' := Nat.mod_lt _ hpos
        have hM := hm _ _ hq hr
        have hpe : p / k' * k' + p % k' = p := by rw [Nat.mul_comm]; exact Nat.div_add_mod p k'
        rw [Nat.add_assoc, hpe] at hM
        obtain ⟨m1, m2⟩ := h.mem _ _ _ hM
        refine ⟨m1, m2, fun d hd' => ?_⟩
        have he := List.getElem?_eq_getElem hq
        have := f2 _ _ _ he hr
        rw [hpe] at this
        rw [this] at hd'
        exact hd _ _ _ d he hd'
      obtain ⟨vs, l1, l2, l3, l4⟩ := hh.loadCells (P := P)
      rw [f1] at l1
      exact ⟨vs, by simpa [Builtin.firstCells] using l1, l2, l3, l4⟩
  · rename_i b o m c
    have := den_lit_inv hv; subst this
    split at hs
    · rename_i ds e
      split at hs
      · rename_i hfit
        injection hs with hs; subst hs
        obtain ⟨c1, c2⟩ := chunk_cells m k (ds.drop o) (by simp; omega)
        have hlk : ∀ e ∈ chunk m k (ds.drop o), e.length = k := fun e he => by
          obtain ⟨i, hi, rfl⟩ := List.getElem_of_mem he
          exact c1 i _ (List.getElem?_eq_getElem hi)
        refine ⟨by simp [Builtin.lenOf, chunk_length], hlk, ?_⟩
        rw [chunk_flatten _ _ _ (by simp; omega), chunk_length]
        have hh := ((holds_cells h e).drop o).take (m * k)
        rw [Nat.zero_add] at hh
        obtain ⟨vs, l1, l2, l3, l4⟩ := hh.loadCells (P := P)
        have : ((ds.drop o).take (m * k)).length = m * k := by simp; omega
        rw [this] at l1
        exact ⟨vs, by simpa [Builtin.firstCells] using l1, l2, l3, l4⟩
      · cases hs
    · cases hs
  · rename_i s
    have := den_lit_inv hv; subst this
    injection hs with hs; subst hs
    obtain rfl := hk1 s rfl
    have hl : (bytesD s).length = s.size := by simp [bytesD]
    have hfl : (bytesD s).flatten = s.data.toList.map fun b => D.int .u8 (b.toNat : Int) := by
      simp [bytesD, List.flatten_eq_flatMap, List.flatMap_map]
      rw [List.map_eq_flatMap]
    refine ⟨by simp [Builtin.lenOf, hl], fun e he => ?_, (s.extract 0 s.size).data.map (fun b => Value.int .u8 b.toNat), ?_, ?_⟩
    · obtain ⟨b, -, rfl⟩ := List.mem_map.1 he; rfl
    · rw [hl]; simp [Builtin.firstCells]
    · rw [hfl]
      have hx : s.extract 0 s.size = s := by simp
      rw [hx]
      refine ⟨by simp, fun i hi => ?_, fun i d hd => ?_⟩
      · simp at hi
        simp [Array.getD, hi, Value.oneCell']
      · rw [List.getElem?_map] at hd
        obtain ⟨y, hy, rfl⟩ := Option.map_eq_some_iff.1 hd
        rw [Array.getElem?_toList] at hy
        obtain ⟨y1, y2⟩ := Array.getElem?_eq_some_iff.1 hy
        have : ((s.data.map fun b => Value.int .u8 (b.toNat : Int)).getD i undef) = .int .u8 (y.toNat : Int) := by
          have y3 : i < s.size := y1
          simp [Array.getD, y3, y2]
        rw [this]; exact .lit _
  · cases hs

def tokList (tok : Tok) : Bool := match tok with
  | .nil | .full => true
  | _ => false
def happend (lm : Bool) (E : TI) (a x : D) (σ : Store) (K : D → Store → Prop) : Prop :=
  match srcE E.size x σ with
  | none => False
  | some xs =>
    0 < E.size ∧ match a with
    | .list es tok => ((es.length + xs.length) * E.bytes ≤ 140737488355328 ∧ es.length + xs.length ≤ 9223372036854775807) ∧
      (if lm then tokList tok = true ∧ (xs = [] → K (.list es tok) σ) ∧ (xs ≠ [] → ∀ z, E.zero = some z → ∀ b c, σ b = none → es.length + xs.length ≤ c → c ≤ 9223372036854775807 →
          K (.lit (.slice (some ⟨b, 0, none⟩) (es.length + xs.length) c)) (σ.set b (.cells (es.flatten ++ xs.flatten ++ zrep (c - (es.length + xs.length)) z))))
      else match tok with
        | .nil => (xs = [] → K (.list es .nil) σ) ∧ (xs ≠ [] → ∀ b c, σ b = none → es.length + xs.length ≤ c → K (.list (es ++ xs) (.own b c E.size)) (σ.set b (.spare (es.length + xs.length) c E.size)))
        | .full => (xs = [] → K (.list es .full) σ) ∧ (xs ≠ [] → ∀ b c, σ b = none → es.length + xs.length ≤ c → K (.list (es ++ xs) (.own b c E.size)) (σ.set b (.spare (es.length + xs.length) c E.size)))
        | .own b c k => (σ b = some (.spare es.length c k) ∧ k = E.size) ∧
            (es.length + xs.length ≤ c → K (.list (es ++ xs) (.own b c k)) (σ.set b (.spare (es.length + xs.length) c k))) ∧
            (c < es.length + xs.length → ∀ b' c', σ b' = none → es.length + xs.length ≤ c' → K (.list (es ++ xs) (.own b' c' k)) (σ.set b' (.spare (es.length + xs.length) c' k)))
        | .ro => False)
    | .lit (.slice (some ⟨b, o, none⟩) n c) => match σ b with
      | some (.cells ds) => (n ≤ c ∧ o + c * E.size ≤ ds.length ∧ (n + xs.length) * E.bytes ≤ 140737488355328 ∧ n + xs.length ≤ 9223372036854775807) ∧
          (n + xs.length ≤ c → K (.lit (.slice (some ⟨b, o, none⟩) (n + xs.length) c)) (σ.set b (.cells (spl ds (o + n * E.size) xs.flatten)))) ∧
          (c < n + xs.length → ∀ z, E.zero = some z → ∀ b' c', σ b' = none → n + xs.length ≤ c' → c' ≤ 9223372036854775807 →
            K (.lit (.slice (some ⟨b', 0, none⟩) (n + xs.length) c')) (σ.set b' (.cells ((ds.drop o).take (n * E.size) ++ xs.flatten ++ zrep (c' - (n + xs.length)) z))))
      | _ => False
    | _ => False

theorem run_app_room {t u e e2 : TypeId} {i : TypeInfo} (ht : P.underlying t = some (.slice e)) (hu : P.underlying u = some (.slice e2) ∨ P.underlying u = some .string) (hi : P.info? e = some i) (base : Option Addr) (n c m : Nat) (x : Value) (ty : TypeId)
    (hl : (Builtin.lenOf x).run P w = .ok m w) (news : Array Value) (hf : (Builtin.firstCells i.size m x).run P w = .ok news w) (hroom : n + m ≤ c) {w' : World}
    (hst : (match base with | some a => storeCells (a.add (n * i.size)) news.toList | none => pure ()).run P w = .ok () w') :
    (Builtin.append_ #[t, u] ty #[.slice base n c, x]).run P w = .ok (.slice base (n + m) c) w' := by
  cases base with
  | none =>
    simp at hst; subst hst
    rcases hu with hu | hu <;> simp [Builtin.append_, run_underlying ht, run_underlying hu, run_sizeOf hi, hl, hf, hroom]
  | some a =>
    simp only at hst
    rcases hu with hu | hu <;> simp [Builtin.append_, run_underlying ht, run_underlying hu, run_sizeOf hi, hl, hf, hroom, hst]

theorem run_app_grow {t u e e2 : TypeId} {i : TypeInfo} {z : Value} (ht : P.underlying t = some (.slice e)) (hu : P.underlying u = some (.slice e2) ∨ P.underlying u = some .string) (hi : P.info? e = some i) (hz : i.zero = some z) (base : Option Addr) (n c m : Nat) (x : Value) (ty : TypeId)
    (hl : (Builtin.lenOf x).run P w = .ok m w) (news olds : Array Value) (hfx : (Builtin.firstCells i.size m x).run P w.drew = .ok news w.drew) (hfs : (Builtin.firstCells i.size n (.slice base n c)).run P w.drew = .ok olds w.drew) (hgrow : c < n + m)
    (h63 : n + m ≤ 9223372036854775807) (hb : (n + m) * i.bytes ≤ 140737488355328) :
    (Builtin.append_ #[t, u] ty #[.slice base n c, x]).run P w = .ok (.slice (some ⟨w.heap.size, 0, none⟩) (n + m) (grownCap w (n + m) c e))
      (w.drew.alloc (.cells (olds ++ news ++ Builtin.zeroCells z.cells (grownCap w (n + m) c e - (n + m))) e)) := by
  have hfit := growslice_fits hgrow hb
  have hn : ¬ (n + m ≤ c) := by omega
  have h63' : ¬ (9223372036854775807 < ((n : Int) + (m : Int))) := by omega
  have h48' : ¬ (281474976710656 < Builtin.nextslicecap (n + m) c * i.bytes) := by omega
  rcases hu with hu | hu <;>
  simp [Builtin.append_, run_underlying ht, run_underlying hu, run_sizeOf hi, typeInfo, run_zeroValue hi hz, hi, hl, hn, h63', h48', Question.forced, hfx, hfs, newRow, grownCap]
end Go.HL
/- HL, part H: appending: it goes as told. -/
set_option linter.unusedVariables false
set_option linter.unusedSimpArgs false
namespace Go.HL
open Go.RowKit
variable {P : Program} {w0 w : World} {M : Mem} {σ : Store}

theorem Pts.append {a b : Array Value} {x y : List D} (h : Pts M a x) (k : Pts M b y) : Pts M (a ++ b) (x ++ y) := by
  have hs := h.size
  have ks := k.size
  have key : ∀ i, (a ++ b).getD i undef = if i < a.size then a.getD i undef else b.getD (i - a.size) undef := fun i => by
    simp only [Array.getD_eq_getD_getElem?, Array.getElem?_append]
    split <;> rfl
  refine ⟨by simp [hs, ks], fun i hi => ?_, fun i d hd => ?_⟩
  · simp at hi
    rw [key]
    by_cases hc : i < a.size
    · rw [if_pos hc]; exact h.one i hc
    · rw [if_neg hc]; exact k.one _ (by omega)
  · rw [key]
    rw [List.getElem?_append] at hd
    by_cases hc : i < a.size
    · rw [if_pos hc]; rw [if_pos (by omega)] at hd; exact h.den i d hd
    · rw [if_neg hc]; rw [if_neg (by omega)] at hd; rw [hs]; exact k.den _ d hd

/-- A slice's own elements, as cells. -/
theorem list_reads (h : Sim w0 M σ w) {v : Value} {es : List (List D)} {tok : Tok} (hv : Den M v (.list es tok)) {k : Nat} (hk : SizedAs (.list es tok) k) (hpos : 0 < k) :
    ∃ olds : Array Value, (Builtin.firstCells k es.length v).run P w = .ok olds w ∧ Pts M olds es.flatten := by
  obtain ⟨_, _, h3⟩ := src_reads (P := P) h hv (k := k) (xs := es) rfl hk (by intro s hs; cases hs) hpos
  exact h3

theorem grown_pts {z : Value} {zs : List D} (hz : Pts M z.cells zs) {olds news : Array Value} {xo xn : List D} (ho : Pts M olds xo) (hn : Pts M news xn) (n : Nat) :
    Pts M (olds ++ news ++ Builtin.zeroCells z.cells n) (xo ++ xn ++ zrep n zs) :=
  (ho.append hn).append (pts_zeros hz n _ (by rw [hz.size]))

theorem srcE_sized {k : Nat} {x : D} {xs : List (List D)} (hs : srcE k x σ = some xs) (hk : SizedAs x k) (hk1 : ∀ s, x = .str s → k = 1) : ∀ e ∈ xs, e.length = k := by
  unfold srcE at hs
  split at hs
  · injection hs with hs; subst hs; exact hk
  · split at hs
    · split at hs
      · rename_i hfit
        injection hs with hs; subst hs
        intro e he
        obtain ⟨i, hi, rfl⟩ := List.getElem_of_mem he
        exact (chunk_cells _ k _ (by simp; omega)).1 i _ (List.getElem?_eq_getElem hi)
      · cases hs
    · cases hs
  · rename_i s
    injection hs with hs; subst hs
    intro e he
    obtain ⟨b, -, rfl⟩ := List.mem_map.1 he
    rw [hk1 s rfl]; rfl
  · cases hs

/-- A row that grows into a new block, told as a list. -/
theorem grow_list (h : Sim w0 M σ w) (cs : Array Value) (t : TypeId) (es : List (List D)) (rest : List D) (k n c : Nat) (hn : es.length = n) (hk : ∀ e ∈ es, e.length = k) (hp : Pts M cs (es.flatten ++ rest)) (hc : cs.size = c * k) (hnc : n ≤ c) (hc2 : c ≤ 9223372036854775807) :
    ∃ M', Sim w0 M' (σ.set w.heap.size (.spare n c k)) (w.alloc (.cells cs t)) ∧ MLe M M' ∧ Den M' (.slice (some ⟨w.heap.size, 0, none⟩) n c) (.list es (.own w.heap.size c k)) := by
  obtain ⟨g1, g2⟩ := h.alloc_pub cs t (n * k) (fun j _ hj => hp.one j hj)
  obtain ⟨f1, f2⟩ := flatten_get es hk
  refine ⟨_, g1.add_spare w.heap.size n c k h.fresh h.base.size ⟨cs, t, heap_push_at _ _, hc, hnc, fun o ho => ?_⟩, g2, ?_⟩
  · unfold Mem.pub
    rw [if_pos rfl, if_neg (by omega)]
  · refine den_new_list (hp.mono g2) (by simp [f1, hn]) hnc hc2 (.own w.heap.size c k) es hn (fun i e he => hk e (List.mem_of_getElem? he)) (fun i e j d he hd => ?_) ⟨rfl, rfl, rfl⟩
    have hj : j < k := by have := (List.getElem?_eq_some_iff.1 hd).1; rw [hk e (List.mem_of_getElem? he)] at this; exact this
    have hi : i < es.length := (List.getElem?_eq_some_iff.1 he).1
    have hlt : i * k + j < es.flatten.length := by
      rw [f1]
      calc i * k + j < i * k + k := by omega
        _ = (i + 1) * k := by rw [Nat.succ_mul]
        _ ≤ es.length * k := Nat.mul_le_mul_right _ hi
    rw [List.getElem?_append_left hlt, f2 i e j he hj]; exact hd

/-- A row that has room, told as a list. -/
theorem room_list (h : Sim w0 M σ w) {b c k n m : Nat} {es xs : List (List D)} (hn : es.length = n) (hm : xs.length = m) (hv : Den M (.slice (some ⟨b, 0, none⟩) n c) (.list es (.own b c k))) (hs : σ b = some (.spare n c k)) (hke : ∀ e ∈ es, e.length = k) (hkx : ∀ e ∈ xs, e.length = k)
    (news : Array Value) (hp : Pts M news xs.flatten) (hroom : n + m ≤ c) :
    ∃ w' M', (storeCells ((⟨b, 0, none⟩ : Addr).add (n * k)) news.toList).run P w = .ok () w' ∧ Sim w0 M' (σ.set b (.spare (n + m) c k)) w' ∧ MLe M M' ∧ Den M' (.slice (some ⟨b, 0, none⟩) (n + m) c) (.list (es ++ xs) (.own b c k)) := by
  obtain ⟨cur, t, hb, hsz, hnc, hfree⟩ := h.spare b n c k hs
  obtain ⟨x1, x2⟩ := flatten_get xs hkx
  have hns : news.size = m * k := by rw [hp.size, x1, hm]
  have hfit : n * k + 0 + news.toList.length ≤ cur.size := by
    rw [hsz, Array.length_toList, hns, Nat.add_zero, ← Nat.add_mul]
    exact Nat.mul_le_mul_right _ hroom
  have hone : ∀ v ∈ news.toList, v.oneCell' = true := fun v hv => by
    obtain ⟨i, hi, rfl⟩ := List.getElem_of_mem hv
    have hi' : i < news.size := by simpa using hi
    have := hp.one i hi'
    simpa [Array.getD, hi'] using this
  have hr := run_storeCells_at P b (n * k) t news.toList 0 cur w hb hfit hone
  simp only [Nat.add_zero, Array.length_toList, hns] at hr
  refine ⟨_, fun x o => if x = b ∧ n * k ≤ o ∧ o < (n + m) * k then some (news.getD (o - n * k) undef) else M x o, by rw [addr_add, Nat.zero_add]; exact hr, ?_, ?_, ?_⟩
  rotate_left
  · intro x o v e
    show (if x = b ∧ n * k ≤ o ∧ o < (n + m) * k then some (news.getD (o - n * k) undef) else M x o) = some v
    rw [if_neg]; exact e
    rintro ⟨rfl, h1, h2⟩
    rw [hfree o h1] at e; cases e
  · obtain ⟨a, c', k', b', o', cv, e1, e2, e3, ha, hlen, hmm, hd, ht⟩ := den_list_inv hv
    simp only [Value.slice.injEq] at e1
    obtain ⟨rfl, e1, rfl⟩ := e1
    obtain ⟨-, -, rfl⟩ := ht
    have hMle : MLe M (fun x o => if x = b ∧ n * k ≤ o ∧ o < (n + m) * k then some (news.getD (o - n * k) undef) else M x o) := by
      intro x o v e
      show (if x = b ∧ n * k ≤ o ∧ o < (n + m) * k then some (news.getD (o - n * k) undef) else M x o) = some v
      rw [if_neg]; exact e
      rintro ⟨rfl, h1, h2⟩
      rw [hfree o h1] at e; cases e
    refine .list _ (n + m) c k b 0 (es ++ xs) (.own b c k) (fun i j => if i < n then cv i j else news.getD ((i - n) * k + j) undef) (by simp [hn, hm]) hroom e3 (fun _ => rfl) (fun i e he => ?_) (fun i j hi hj => ?_) (fun i e j d he hd' => ?_) ⟨rfl, rfl, rfl⟩
    · rcases List.mem_append.1 (List.mem_of_getElem? he) with he | he
      · exact hke e he
      · exact hkx e he
    · show (if b = b ∧ n * k ≤ 0 + i * k + j ∧ 0 + i * k + j < (n + m) * k then some (news.getD (0 + i * k + j - n * k) undef) else M b (0 + i * k + j)) = some (if i < n then cv i j else news.getD ((i - n) * k + j) undef)
      by_cases hc : i < n
      · have h2 : i * k + j < n * k := by
          calc i * k + j < i * k + k := by omega
            _ = (i + 1) * k := by rw [Nat.succ_mul]
            _ ≤ n * k := Nat.mul_le_mul_right _ hc
        rw [if_neg (by omega), if_pos hc]
        have hpos : 0 < es.length := by omega
        have := ha hpos
        simp only [Option.some.injEq, Addr.mk.injEq] at this
        obtain ⟨rfl, rfl, -⟩ := this
        exact hmm i j (by omega) hj
      · have h2 : i * k + j < (n + m) * k := by
          calc i * k + j < i * k + k := by omega
            _ = (i + 1) * k := by rw [Nat.succ_mul]
            _ ≤ (n + m) * k := Nat.mul_le_mul_right _ hi
        have h3 : n * k ≤ i * k := Nat.mul_le_mul_right _ (by omega)
        rw [if_pos ⟨rfl, by omega, by omega⟩, if_neg hc, Nat.sub_mul, show 0 + i * k + j - n * k = i * k - n * k + j from by omega]
    · by_cases hc : i < n
      · rw [List.getElem?_append_left (by omega)] at he
        rw [if_pos hc]
        exact (hd i e j d he hd').mono hMle
      · rw [List.getElem?_append_right (by omega)] at he
        rw [if_neg hc, show i - n = i - es.length from by rw [hn]]
        have hj : j < k := by have := (List.getElem?_eq_some_iff.1 hd').1; rw [hkx e (List.mem_of_getElem? he)] at this; exact this
        exact (hp.den _ d (by rw [x2 _ e j he hj]; exact hd')).mono hMle
  · have hMle : MLe M (fun x o => if x = b ∧ n * k ≤ o ∧ o < (n + m) * k then some (news.getD (o - n * k) undef) else M x o) := by
      intro x o v e
      show (if x = b ∧ n * k ≤ o ∧ o < (n + m) * k then some (news.getD (o - n * k) undef) else M x o) = some v
      rw [if_neg]; exact e
      rintro ⟨rfl, h1, h2⟩
      rw [hfree o h1] at e; cases e
    have hnm : (n + m) * k = n * k + m * k := Nat.add_mul ..
    refine h.turn b _ ⟨_, hs⟩ hMle (fun x o hx => if_neg (fun hh => hx hh.1)) rfl rfl rfl (by simp) (fun x hx => setRow_other w b x _ hx) (fun o v e => ?_) (fun _ hh => by cases hh) (fun n' c' k' hh => ?_) (fun _ hh => by cases hh)
    · rw [setRow_cell _ _ _ _ _ _ hb]
      have hcell : ∀ o, ((cur.toList.take (n * k) ++ news.toList ++ cur.toList.drop (n * k + m * k)).toArray)[o]? = if o < n * k then cur[o]? else if o < n * k + m * k then news[o - n * k]? else cur[o]? := by
        intro o
        simp only [List.getElem?_toArray]
        rw [List.append_assoc, List.getElem?_append]
        have h2 : (cur.toList.take (n * k)).length = n * k := by simp; omega
        rw [h2]
        split
        · rename_i hi; rw [List.getElem?_take, if_pos hi, Array.getElem?_toList]
        · rename_i hi
          rw [List.getElem?_append, Array.length_toList, hns]
          split
          · rename_i hi2; rw [if_pos (by omega), Array.getElem?_toList]
          · rename_i hi2; rw [if_neg (by omega), List.getElem?_drop, Array.getElem?_toList, show n * k + m * k + (o - n * k - m * k) = o from by omega]
      rw [hcell]
      by_cases hc : n * k ≤ o ∧ o < (n + m) * k
      · have e' : some (news.getD (o - n * k) undef) = some v := by rw [← e]; exact (if_pos ⟨rfl, hc⟩).symm
        injection e' with e'
        rw [if_neg (by omega), if_pos (by omega)]
        have hlt : o - n * k < news.size := by omega
        have h1 := hp.one _ hlt
        rw [e'] at h1
        refine ⟨?_, h1⟩
        rw [← e']; simp [Array.getD, hlt]
      · have e' : M b o = some v := by rw [← e]; exact (if_neg (fun hh => hc hh.2)).symm
        obtain ⟨m1, m2⟩ := h.mem b o v e'
        rw [cell_of_row w b o cur t (0, 0) hb] at m1
        refine ⟨?_, m2⟩
        split
        · exact m1
        · rw [if_neg (by omega)]; exact m1
    · simp only [HObj.spare.injEq] at hh
      obtain ⟨rfl, rfl, rfl⟩ := hh
      refine ⟨_, t, setRow_heap w b cur _ t _ hb, ?_, hroom, fun o ho => ?_⟩
      · simp only [List.size_toArray, List.length_append, List.length_take, List.length_drop, Array.length_toList]
        simp only [Array.length_toList, Nat.add_zero] at hfit
        omega
      · show (if b = b ∧ n * k ≤ o ∧ o < (n + m) * k then some (news.getD (o - n * k) undef) else M b o) = none
        rw [if_neg (by omega)]
        exact hfree o (by omega)

theorem zero_pts {e : TypeId} {E : TI} (hE : ti P e = some E) (hz : zfit P e = true) {i : TypeInfo} (hi : P.info? e = some i) : ∃ z zs, i.zero = some z ∧ E.zero = some zs ∧ Pts M z.cells zs ∧ zs.length = z.cells.size := by
  obtain ⟨i', d, hi', hd, -, -, -, e4, -⟩ := ti_some hE
  rw [hi] at hi'; injection hi' with hi'; subst hi'
  cases hz0 : i.zero with
  | none => simp [zfit, hi, hz0] at hz
  | some z =>
    rw [hz0] at e4
    obtain ⟨z', i', hi', hz', hp⟩ := pts_zero (M := M) hE hz e4
    rw [hi] at hi'; injection hi' with hi'; subst hi'
    rw [hz0] at hz'; injection hz' with hz'; subst hz'
    exact ⟨z, _, rfl, e4, hp, hp.size.symm⟩

/-- Its zero value has a type's size. -/
def zsize (P : Program) (t : TypeId) : Bool := match P.info? t with
  | some i => match i.zero with
    | some z => z.cells.size == i.size
    | none => false
  | none => false

theorem append_goes (h : Sim w0 M σ w) {t u e e2 : TypeId} {T E : TI} (hT : ti P t = some T) (hE : ti P e = some E) (hkk : T.kk = .slice e) (hu : P.underlying u = some (.slice e2) ∨ P.underlying u = some .string) (hz : zfit P e = true) (hzs : zsize P e = true) (lm : Bool)
    {va vx : Value} {a x : D} (ha : Den M va a) (hx : Den M vx x) (hka : SizedAs a E.size) (hkx : SizedAs x E.size) (hk1 : ∀ s, x = .str s → E.size = 1) (ty : TypeId) {K : D → Store → Prop} (hk : happend lm E a x σ K) :
    Goes P (Builtin.append_ #[t, u] ty #[va, vx]) w0 M w K := by
  obtain ⟨i, d, hi, hd, -, e2', e3, -, -⟩ := ti_some hE
  have ht := kk_slice hT hkk
  unfold happend at hk
  split at hk
  · exact hk.elim
  · rename_i xs hxs
    obtain ⟨hpos, hk⟩ := hk
    obtain ⟨l1, l2, news, l3, l4⟩ := src_reads (P := P) h hx hxs hkx hk1 hpos
    obtain ⟨-, -, news', l3', l4'⟩ := src_reads (P := P) h.drew hx hxs hkx hk1 hpos
    obtain ⟨z, zs, hz1, hz2, hz3, hz4⟩ := zero_pts (M := M) hE hz hi
    have hzk : z.cells.size = E.size := by
      simp only [zsize, hi, hz1] at hzs
      rw [e2']; simpa using hzs
    obtain ⟨x1, x2⟩ := flatten_get xs l2
    split at hk
    · -- a list
      rename_i es tok
      obtain ⟨⟨hb1, hb2⟩, hk⟩ := hk
      have ha0 := ha
      obtain ⟨aa, c, k, b, o, cv, rfl, hc, hc2, haa, hlen, hm, hdd, htk⟩ := den_list_inv ha
      obtain ⟨olds, o1, o2⟩ := list_reads (P := P) h.drew ha0 hka hpos
      obtain ⟨y1, y2⟩ := flatten_get es hka
      -- what grows
      have grow : ∀ {P' : Prop}, c < es.length + xs.length → (∀ M' v', Sim w0 M' (σ.set w.heap.size (.spare (es.length + xs.length) (grownCap w (es.length + xs.length) c e) E.size)) (w.drew.alloc (.cells (olds ++ news' ++ Builtin.zeroCells z.cells (grownCap w (es.length + xs.length) c e - (es.length + xs.length))) e)) →
          MLe M M' → v' = .slice (some ⟨w.heap.size, 0, none⟩) (es.length + xs.length) (grownCap w (es.length + xs.length) c e) → Den M' v' (.list (es ++ xs) (.own w.heap.size (grownCap w (es.length + xs.length) c e) E.size)) →
          (Builtin.append_ #[t, u] ty #[.slice aa es.length c, vx]).run P w = .ok v' (w.drew.alloc (.cells (olds ++ news' ++ Builtin.zeroCells z.cells (grownCap w (es.length + xs.length) c e - (es.length + xs.length))) e)) → P') → P' := by
        intro P' hgr hh
        have hge := grownCap_ge w (es.length + xs.length) c e
        have hle := grownCap_le_maxLen w (es.length + xs.length) c e (by simp only [maxLen]; omega)
        simp only [maxLen] at hle
        have hpts := grown_pts (M := M) hz3 o2 l4' (grownCap w (es.length + xs.length) c e - (es.length + xs.length))
        have hrun := run_app_grow (P := P) (w := w) ht hu hi hz1 aa es.length c xs.length vx ty l1 news' olds (by rw [← e2']; exact l3') (by rw [← e2']; exact o1) hgr hb2 (by rw [← e3]; exact hb1)
        have hsz : (olds ++ news' ++ Builtin.zeroCells z.cells (grownCap w (es.length + xs.length) c e - (es.length + xs.length))).size = grownCap w (es.length + xs.length) c e * E.size := by
          rw [hpts.size]
          simp only [List.length_append, y1, x1, zrep_length, hz4, hzk, ← Nat.add_mul]
          congr 1; omega
        have hp2 : Pts M (olds ++ news' ++ Builtin.zeroCells z.cells (grownCap w (es.length + xs.length) c e - (es.length + xs.length))) ((es ++ xs).flatten ++ zrep (grownCap w (es.length + xs.length) c e - (es.length + xs.length)) zs) := by
          rw [List.flatten_append]; exact hpts
        obtain ⟨M', q1, q2, q3⟩ := grow_list h.drew _ e (es ++ xs) _ E.size (es.length + xs.length) _ (by simp) (fun e' he => by
          rcases List.mem_append.1 he with he | he
          · exact hka e' he
          · exact l2 e' he) hp2 hsz hge hle
        exact hh M' _ q1 q2 rfl q3 hrun
      have same : xs = [] → (Builtin.append_ #[t, u] ty #[.slice aa es.length c, vx]).run P w = .ok (.slice aa es.length c) w := by
        rintro rfl
        have hn0 : news = #[] := by have := l4.size; simp at this; exact this
        subst hn0
        have := run_app_room (P := P) (w := w) ht hu hi aa es.length c 0 vx ty l1 #[] (by rw [← e2']; exact l3) (by omega) (w' := w) (by cases aa <;> simp [storeCells])
        simpa using this
      split at hk
      · -- told to the letter from now on
        obtain ⟨htl, hk1, hk2⟩ := hk
        by_cases hx0 : xs = []
        · exact ⟨_, w, M, _, σ, same hx0, MLe.refl M, h, ha0, hk1 hx0⟩
        · have hxp : 0 < xs.length := List.length_pos_iff.2 hx0
          have hcn : c = es.length := by
            cases tok <;> simp [tokList] at htl
            · obtain ⟨-, q1, q2⟩ := htk; omega
            · exact htk
          have hge := grownCap_ge w (es.length + xs.length) c e
          have hle := grownCap_le_maxLen w (es.length + xs.length) c e (by simp only [maxLen]; omega)
          simp only [maxLen] at hle
          have hpts := grown_pts (M := M) hz3 o2 l4' (grownCap w (es.length + xs.length) c e - (es.length + xs.length))
          have hrun := run_app_grow (P := P) (w := w) ht hu hi hz1 aa es.length c xs.length vx ty l1 news' olds (by rw [← e2']; exact l3') (by rw [← e2']; exact o1) (by omega) hb2 (by rw [← e3]; exact hb1)
          exact ⟨_, _, M, _, _, hrun, MLe.refl M, h.drew.alloc_cells _ e _ hpts.size hpts.one hpts.den, .lit _, hk2 hx0 zs hz2 _ _ h.fresh hge hle⟩
      · split at hk
        · -- nil
          obtain ⟨hk1, hk2⟩ := hk
          by_cases hx0 : xs = []
          · exact ⟨_, w, M, _, σ, same hx0, MLe.refl M, h, ha0, hk1 hx0⟩
          · have hxp : 0 < xs.length := List.length_pos_iff.2 hx0
            obtain ⟨-, q1, q2⟩ := htk
            exact grow (by omega) fun M' v' r1 r2 r3 r4 r5 => ⟨v', _, M', _, _, r5, r2, r1, r4, hk2 hx0 _ _ h.fresh (grownCap_ge w _ _ _)⟩
        · -- full
          obtain ⟨hk1, hk2⟩ := hk
          by_cases hx0 : xs = []
          · exact ⟨_, w, M, _, σ, same hx0, MLe.refl M, h, ha0, hk1 hx0⟩
          · have hxp : 0 < xs.length := List.length_pos_iff.2 hx0
            have q2 : c = es.length := htk
            exact grow (by omega) fun M' v' r1 r2 r3 r4 r5 => ⟨v', _, M', _, _, r5, r2, r1, r4, hk2 hx0 _ _ h.fresh (grownCap_ge w _ _ _)⟩
        · -- own
          rename_i b' c' k'
          obtain ⟨⟨hs, rfl⟩, hk1, hk2⟩ := hk
          obtain ⟨rfl, rfl, rfl⟩ := htk
          by_cases hroom : es.length + xs.length ≤ c'
          · obtain ⟨w', M', r1, r2, r3, r4⟩ := room_list (P := P) h rfl rfl ha0 hs hka l2 news l4 hroom
            have hrun := run_app_room (P := P) (w := w) ht hu hi (some ⟨b', 0, none⟩) es.length c' xs.length vx ty l1 news (by rw [← e2']; exact l3) hroom (w' := w') (by rw [← e2']; exact r1)
            exact ⟨_, w', M', _, _, hrun, r3, r2, r4, hk1 hroom⟩
          · exact grow (by omega) fun M' v' r1 r2 r3 r4 r5 => ⟨v', _, M', _, _, r5, r2, r1, r4, hk2 (by omega) _ _ h.fresh (grownCap_ge w _ _ _)⟩
        · exact hk.elim
    · -- cells to the letter
      rename_i b o n c
      have := den_lit_inv ha; subst this
      split at hk
      · rename_i ds hds
        obtain ⟨⟨hnc, hfit, hb1, hb2⟩, hk1, hk2⟩ := hk
        by_cases hroom : n + xs.length ≤ c
        · have hmul : n * E.size + xs.length * E.size ≤ c * E.size := by rw [← Nat.add_mul]; exact Nat.mul_le_mul_right _ hroom
          obtain ⟨w', r1, r2⟩ := h.write (P := P) hds (o + n * E.size) news.toList xs.flatten (by simpa using l4.size) (by rw [x1]; omega) (fun v hv => by
            obtain ⟨j, hj, rfl⟩ := List.getElem_of_mem hv
            have hj' : j < news.size := by simpa using hj
            have := l4.one j hj'
            simpa [Array.getD, hj'] using this) (fun j y hy => by
            have := l4.den j y hy
            simpa [List.getD_eq_getElem?_getD, Array.getD_eq_getD_getElem?] using this)
          have hrun := run_app_room (P := P) (w := w) ht hu hi (some ⟨b, o, none⟩) n c xs.length vx ty l1 news (by rw [← e2']; exact l3) hroom (w' := w') (by simp only [addr_add]; rw [← e2']; exact r1)
          exact ⟨_, w', M, _, _, hrun, MLe.refl M, r2, .lit _, hk1 hroom⟩
        · have hge := grownCap_ge w (n + xs.length) c e
          have hle := grownCap_le_maxLen w (n + xs.length) c e (by simp only [maxLen]; omega)
          simp only [maxLen] at hle
          have hmul : n * E.size ≤ c * E.size := Nat.mul_le_mul_right _ hnc
          have hh := ((holds_cells h.drew hds).drop o).take (n * E.size)
          rw [Nat.zero_add] at hh
          obtain ⟨olds, q1, q2, q3, q4⟩ := hh.loadCells (P := P)
          have hql : ((ds.drop o).take (n * E.size)).length = n * E.size := by simp; omega
          rw [hql] at q1
          have o2 : Pts M olds ((ds.drop o).take (n * E.size)) := ⟨q2, q3, q4⟩
          have hpts := grown_pts (M := M) hz3 o2 l4' (grownCap w (n + xs.length) c e - (n + xs.length))
          have hrun := run_app_grow (P := P) (w := w) ht hu hi hz1 (some ⟨b, o, none⟩) n c xs.length vx ty l1 news' olds (by rw [← e2']; exact l3') (by rw [← e2']; simpa [Builtin.firstCells] using q1) (by omega) hb2 (by rw [← e3]; exact hb1)
          exact ⟨_, _, M, _, _, hrun, MLe.refl M, h.drew.alloc_cells _ e _ hpts.size hpts.one hpts.den, .lit _, hk2 (by omega) zs hz2 _ _ h.fresh hge hle⟩
      · exact hk.elim
    · exact hk.elim
end Go.HL
/- HL, part I: the remaining operations. -/
set_option linter.unusedVariables false
set_option linter.unusedSimpArgs false
namespace Go.HL
open Go.RowKit
variable {P : Program} {w0 w : World} {M : Mem} {σ : Store}

/-! small ones -/
def hun (op : UnOp) (d : D) (K : D → Prop) : Prop :=
  match op, d with
  | .not, .lit (.bool b) => K (.bool (!b))
  | .neg, .lit (.int k n) => K (.int k (k.wrap (0 - n)))
  | _, _ => False
theorem un_goes (h : Sim w0 M σ w) (op : UnOp) {v : Value} {d : D} (hv : Den M v d) {K : D → Store → Prop} (hk : hun op d (K · σ)) : Goes P (Op.unary op v) w0 M w K := by
  unfold hun at hk
  split at hk
  · have := den_lit_inv hv; subst this
    exact Goes.pure h (by simp [Op.unary]) (.lit _) hk
  · have := den_lit_inv hv; subst this
    exact Goes.pure h (by simp [Op.unary, Op.intArith]) (.lit _) hk
  · exact hk.elim

def hextract (d : D) (i : Nat) (K : D → Prop) : Prop :=
  match d with
  | .tup ds => match ds[i]? with
    | some x => K x
    | none => False
  | _ => False
theorem extract_goes (h : Sim w0 M σ w) {v : Value} {d : D} (hv : Den M v d) (i : Nat) {K : D → Store → Prop} (hk : hextract d i (K · σ)) : Goes P (Instr.extract v i) w0 M w K := by
  unfold hextract at hk
  split at hk
  · split at hk
    · rename_i ds x hx
      cases hv with
      | tup vs _ hs hd =>
        have hlt : i < vs.size := by have := (List.getElem?_eq_some_iff.1 hx).1; omega
        exact Goes.pure h (v := vs.getD i undef) (by simp [Instr.extract, hlt, Array.getD]) (hd i x hx) hk
    · exact hk.elim
  · exact hk.elim

def litOf : D → Option Value
  | .lit v => some v
  | _ => none
def litsOf : List D → Option (List Value)
  | [] => some []
  | d :: ds => match litOf d, litsOf ds with
    | some v, some vs => some (v :: vs)
    | _, _ => none
theorem litsOf_spec : ∀ (ds : List D) (vs ls : List Value), litsOf ds = some ls → vs.length = ds.length → (∀ i d, ds[i]? = some d → Den M (vs.getD i undef) d) → vs = ls := by
  intro ds
  induction ds with
  | nil => intro vs ls h hl _; simp [litsOf] at h; subst h; exact List.eq_nil_of_length_eq_zero (by simpa using hl)
  | cons d ds ih =>
    intro vs ls h hl hd
    cases vs with
    | nil => simp at hl
    | cons v vs =>
      simp only [litsOf] at h
      split at h
      · rename_i a b h1 h2
        injection h with h
        subst h
        cases d <;> simp [litOf] at h1
        subst h1
        have e1 := den_lit_inv (hd 0 _ rfl)
        simp at e1
        subst e1
        rw [ih vs b h2 (by simpa using hl) (fun i d hi => by have := hd (i + 1) d (by simpa using hi); simpa using this)]
      · cases h

def hiface (T : TI) (t : TypeId) (d : D) (K : D → Prop) : Prop :=
  match d with
  | .lit v => T.kk.isIface = false ∧ K (.lit (.iface t v))
  | _ => False
theorem iface_goes (h : Sim w0 M σ w) {t : TypeId} {T : TI} (hT : ti P t = some T) {v : Value} {d : D} (hv : Den M v d) {K : D → Store → Prop} (hk : hiface T t d (K · σ)) : Goes P (Instr.makeInterface t v) w0 M w K := by
  obtain ⟨dd, hu, hkk⟩ := kk_desc hT
  unfold hiface at hk
  split at hk
  · have := den_lit_inv hv; subst this
    refine Goes.pure h ?_ (.lit _) hk.2
    have := hk.1
    rw [hkk] at this
    cases dd <;> simp_all [kkOf, KK.isIface, Instr.makeInterface, run_underlying hu]
  · exact hk.elim

/-! conversions -/
def KK.isStr : KK → Bool
  | .str => true
  | _ => false
def KK.isU8 : KK → Bool
  | .int .u8 => true
  | _ => false
def KK.bytes (P : Program) : KK → Bool
  | .slice e => (kindOf P e).isU8
  | _ => false
theorem isStr_desc {d : TypeDesc} (h : (kkOf d).isStr = true) : d = .string := by cases d <;> simp [kkOf, KK.isStr] at h; rfl
theorem bytes_desc {d : TypeDesc} (h : (kkOf d).bytes P = true) : ∃ e, d = .slice e ∧ P.underlying e = some (.int .u8) := by
  cases d <;> simp [kkOf, KK.bytes] at h
  rename_i e
  refine ⟨e, rfl, ?_⟩
  unfold kindOf at h
  split at h
  · rename_i d hd
    cases d <;> simp [kkOf, KK.isU8] at h
    rename_i k
    cases k <;> simp [KK.isU8] at h
    exact hd
  · simp [KK.isU8] at h
def hconv (P : Program) (S T : TI) (d : D) (K : D → Prop) : Prop :=
  match d with
  | .lit (.int _ n) => match T.kk with
    | .int k => K (.int k (k.wrap n))
    | _ => False
  | .lit (.string s) => S.kk.isStr = true ∧ (T.kk.isStr = true → K (.str s)) ∧ (T.kk.bytes P = true → K (.list (bytesD s) .ro)) ∧ (T.kk.isStr = true ∨ T.kk.bytes P = true)
  | .list es _ => (S.kk.bytes P = true ∧ T.kk.isStr = true) ∧ ∃ s, es = bytesD s ∧ K (.str s)
  | _ => False

theorem kindOf_desc {t : TypeId} {k : IntKind} (h : kindOf P t = .int k) : P.underlying t = some (.int k) := by
  unfold kindOf at h
  split at h
  · rename_i d hd
    cases d <;> simp [kkOf] at h
    subst h; exact hd
  · cases h

theorem run_markStringish (w : World) (b : Nat) (cs : Array Value) (t : TypeId) (hb : w.heap[b]? = some (.cells cs t (0, 0))) (w0 : World) (M : Mem) (σ : Store) (h : Sim w0 M σ w) (hσ : σ b = none) (hlow : w0.heap.size ≤ b) :
    ∃ w', (markStringish ⟨b, 0, none⟩).run P w = .ok () w' ∧ Sim w0 M σ w' := by
  have hs : w.shape? b = some (t, cs.size) := by simp [World.shape?, hb]
  refine ⟨w.freeze ⟨b, cs.size, none⟩ 1, ?_, ?_⟩
  · simp [markStringish, hs]
  · have hheap : ∀ x, x ≠ b → (w.freeze ⟨b, cs.size, none⟩ 1).heap[x]? = w.heap[x]? := fun x hx => by
      simp only [World.freeze, Nat.one_ne_zero, if_false, Array.getElem?_modify]
      rw [if_neg (by simpa using fun e => hx e.symm)]
    have hat : (w.freeze ⟨b, cs.size, none⟩ 1).heap[b]? = some (.cells cs t (cs.size, cs.size + 1)) := by
      simp [World.freeze, Array.getElem?_modify, hb]
    refine ⟨⟨h.base.os, h.base.tape, h.base.output, ?_, fun k hk => (hheap k (by omega)).trans (h.base.block k hk)⟩, h.low, fun x o v e => ?_, fun x ds e => ?_, fun x n c k e => ?_, fun x es e => ?_⟩
    · simp only [World.freeze, Nat.one_ne_zero, if_false, Array.size_modify]; exact h.base.size
    · obtain ⟨m1, m2⟩ := h.mem x o v e
      refine ⟨?_, m2⟩
      by_cases hx : x = b
      · subst hx
        rw [cell_of_row _ _ o cs t _ hat]
        rwa [cell_of_row w x o cs t (0, 0) hb] at m1
      · rw [World.cell?_of_block (w := w) (hheap x hx)]; exact m1
    · have hx : x ≠ b := fun hh => by subst hh; rw [hσ] at e; cases e
      rw [hheap x hx]; exact h.cells x ds e
    · have hx : x ≠ b := fun hh => by subst hh; rw [hσ] at e; cases e
      rw [hheap x hx]; exact h.spare x n c k e
    · have hx : x ≠ b := fun hh => by subst hh; rw [hσ] at e; cases e
      rw [hheap x hx]; exact h.maps x es e

theorem conv_goes (h : Sim w0 M σ w) {s t : TypeId} {S T : TI} (hS : ti P s = some S) (hT : ti P t = some T) {v : Value} {d : D} (hv : Den M v d) (hsz : SizedAs d 1) {K : D → Store → Prop} (hk : hconv P S T d (K · σ)) (hlong : ∀ x, d = .str x → x.size ≤ 9223372036854775807) : Goes P (convert s t v) w0 M w K := by
  obtain ⟨ds, hus, hks⟩ := kk_desc hS
  obtain ⟨dt, hut, hkt⟩ := kk_desc hT
  unfold hconv at hk
  split at hk
  · rename_i k' n
    have := den_lit_inv hv; subst this
    split at hk
    · rename_i k e1
      refine Goes.pure h ?_ (.lit _) hk
      rw [hkt] at e1
      cases dt <;> simp [kkOf] at e1
      subst e1
      simp [convert, run_underlying hus, run_underlying hut, Conv.intToInt]
    · exact hk.elim
  · rename_i x
    have := den_lit_inv hv; subst this
    obtain ⟨h1, h2, h3, h4⟩ := hk
    rw [hks] at h1
    obtain rfl := isStr_desc h1
    have hlen := hlong x rfl
    rw [hkt] at h2 h3 h4
    by_cases hts : (kkOf dt).isStr = true
    · obtain rfl := isStr_desc hts
      refine Goes.pure h ?_ (.lit _) (h2 hts)
      simp [convert, run_underlying hus, run_underlying hut]
    have htb := h4.resolve_left hts
    obtain ⟨e', rfl, hue⟩ := bytes_desc htb
    have hk := h3 htb
    have hge := grownCap_ge w x.size 0 e'
    have hle := grownCap_le_maxLen w x.size 0 e' (by simp only [maxLen]; omega)
    simp only [maxLen] at hle
    have hpx : Pts M (x.data.map fun b => Value.int .u8 (b.toNat : Int)) (bytesD x).flatten := by
      have hfl : (bytesD x).flatten = x.data.toList.map fun b => D.int .u8 (b.toNat : Int) := by
        simp [bytesD, List.flatten_eq_flatMap, List.flatMap_map]
        rw [List.map_eq_flatMap]
      rw [hfl]
      refine ⟨by simp, fun i hi => ?_, fun i d hd => ?_⟩
      · simp at hi
        simp [Array.getD, hi, Value.oneCell']
      · rw [List.getElem?_map] at hd
        obtain ⟨y, hy, rfl⟩ := Option.map_eq_some_iff.1 hd
        rw [Array.getElem?_toList] at hy
        obtain ⟨y1, y2⟩ := Array.getElem?_eq_some_iff.1 hy
        have : ((x.data.map fun b => Value.int .u8 (b.toNat : Int)).getD i undef) = .int .u8 (y.toNat : Int) := by
          have y3 : i < x.size := y1
          simp [Array.getD, y3, y2]
        rw [this]; exact .lit _
    have hp : Pts M ((x.data.map fun b => Value.int .u8 (b.toNat : Int)) ++ Array.replicate (grownCap w x.size 0 e' - x.size) (.int .u8 0)) ((bytesD x).flatten ++ List.replicate (grownCap w x.size 0 e' - x.size) (.int .u8 0)) := by
      refine hpx.append ⟨by simp, fun i hi => ?_, fun i d hd => ?_⟩
      · simp at hi; simp [Array.getD, hi, Value.oneCell']
      · have := List.mem_of_getElem? hd
        obtain ⟨i1, rfl⟩ := List.mem_replicate.1 this
        have i2 := (List.getElem?_eq_some_iff.1 hd).1
        simp at i2
        have : (Array.replicate (grownCap w x.size 0 e' - x.size) (Value.int .u8 0)).getD i undef = .int .u8 0 := by simp [Array.getD, i2]
        rw [this]; exact .lit _
    obtain ⟨g1, g2⟩ := h.drew.alloc_pub _ e' (x.size * 1) (fun j _ hj => hp.one j hj)
    obtain ⟨w', m1, m2⟩ := run_markStringish (P := P) _ w.heap.size _ e' (heap_push_at w.drew _) w0 _ σ g1 h.fresh h.base.size
    obtain ⟨f1, f2⟩ := flatten_get (bytesD x) (k := 1) (fun e he => by obtain ⟨b, -, rfl⟩ := List.mem_map.1 he; rfl)
    have hbl : (bytesD x).length = x.size := by simp [bytesD]
    refine ⟨.slice (some ⟨w.heap.size, 0, none⟩) x.size (grownCap w x.size 0 e'), w', _, _, _, ?_, g2, m2, den_new_list (n := x.size) (k := 1) (hp.mono g2) (by simp [f1, hbl]) hge hle .ro (bytesD x) hbl (fun i e he => ?_) (fun i e j d he hd => ?_) trivial, hk⟩
    · have hch : (choose (.appendCap x.size 0 e')).run P w = .ok (grownCap w x.size 0 e') w.drew := by simp [Question.forced, grownCap]
      simp only [convert, Sem.run_bind, run_underlying hus, run_underlying hut, Result.andThen_ok, run_underlying hue, Conv.stringToBytes, hch, newRow, run_newObj, World.alloc_eq, Sem.run_pure]
      have m1' := m1
      simp only [World.size_drew] at m1' ⊢
      rw [m1']
      rfl
    · obtain ⟨b, -, rfl⟩ := List.mem_map.1 (List.mem_of_getElem? he); rfl
    · have hj : j < 1 := by
        have h3 := (List.getElem?_eq_some_iff.1 hd).1
        obtain ⟨b, -, rfl⟩ := List.mem_map.1 (List.mem_of_getElem? he); exact h3
      have hi : i < (bytesD x).length := (List.getElem?_eq_some_iff.1 he).1
      rw [List.getElem?_append_left (by rw [f1]; omega), f2 i e j he hj]; exact hd
  · -- bytes as a text
    rename_i es tok
    obtain ⟨⟨h1, h2⟩, x, rfl, hk⟩ := hk
    rw [hks] at h1
    rw [hkt] at h2
    obtain ⟨e', rfl, hue⟩ := bytes_desc h1
    obtain rfl := isStr_desc h2
    obtain ⟨a, c, k, b, o, cv, rfl, hc, hc2, ha, hlen, hm, hd, ht⟩ := den_list_inv hv
    have hbl : (bytesD x).length = x.size := by simp [bytesD]
    refine Goes.pure h (v := .string x) ?_ (.lit _) hk
    have hx : strOfNums (x.data.toList.map fun b => (b.toNat : Int)) = x := by
      simp [strOfNums, List.map_map, Function.comp_def]
    rcases Nat.eq_zero_or_pos x.size with h0 | h0
    · have hx0 : x = ByteArray.empty := by
        obtain ⟨⟨l⟩⟩ := x
        have : l = [] := List.eq_nil_of_length_eq_zero h0
        subst this; rfl
      subst hx0
      cases a with
      | none => exact run_convert_bytes_nil w s e' hus hue _ _ t hut
      | some ad =>
        simp [convert, run_underlying hus, run_underlying hut, run_underlying hue, Conv.bytesToString, hbl, loadCells, loadCellsFrom]
    · obtain rfl := ha (by omega)
      have := run_convert_bytes_arg (P := P) w s e' hus hue b o (bytesD x).length c (x.data.toList.map fun b => (b.toNat : Int)) (by simp [bytesD]) (fun i hi => ?_) t hut
      · rw [this, hx]
      · have hi' : i < x.size := by omega
        have he : (bytesD x)[i]? = some [D.int .u8 ((x.data[i]'hi').toNat : Int)] := by
          simp [bytesD, List.getElem?_map, Array.getElem?_toList, Array.getElem?_eq_getElem (show i < x.data.size from hi')]
        have hk1 : k = 1 := (hlen i _ he).symm
        subst hk1
        have h3 := hm i 0 hi (by omega)
        have h4 := den_lit_inv (hd i _ 0 _ he rfl)
        rw [h4] at h3
        have := (h.mem _ _ _ h3).1
        simp only [Nat.mul_one, Nat.add_zero] at this
        rw [this]
        simp [List.getD_eq_getElem?_getD, List.getElem?_map, Array.getElem?_toList, Array.getElem?_eq_getElem (show i < x.data.size from hi')]
  · exact hk.elim

/-! maps from texts -/
def mfind (s : ByteArray) : List (ByteArray × Value) → Option Value
  | [] => none
  | (k, v) :: r => if k = s then some v else mfind s r
def mput (s : ByteArray) (v : Value) : List (ByteArray × Value) → List (ByteArray × Value)
  | [] => [(s, v)]
  | (k, u) :: r => if k = s then (s, v) :: r else (k, u) :: mput s v r
def mview (es : List MapEntry) : List (Value × Value) := es.map fun e => (e.key, e.val)
def mtold (l : List (ByteArray × Value)) : List (Value × Value) := l.map fun p => (Value.string p.1, p.2)

theorem bytes_beq (a b : ByteArray) : (a == b) = decide (a = b) := by rw [beq_toListBytes, toList_beq]

theorem findNow_str (s : ByteArray) : ∀ (es : List MapEntry) (l : List (ByteArray × Value)) (n : Nat), mview es = mtold l →
    ∃ r, Instr.findNow .string (.string s) es n = some r ∧ r.map (·.2) = mfind s l ∧
      (∀ i v, r = some (i, v) → n ≤ i ∧ (∃ e, es[i - n]? = some e ∧ e.key = .string s) ∧ ∀ u : Value, mview (es.modify (i - n) (fun e => { e with key := .string s, val := u })) = mtold (mput s u l)) ∧
      (r = none → ∀ u : Value, mtold (mput s u l) = mtold l ++ [(.string s, u)]) := by
  intro es
  induction es with
  | nil =>
    intro l n h
    cases l with
    | nil => exact ⟨none, rfl, rfl, (by intro i v h; cases h), (by intro _ u; rfl)⟩
    | cons => simp [mview, mtold] at h
  | cons e es ih =>
    intro l n h
    cases l with
    | nil => simp [mview, mtold] at h
    | cons p l =>
      obtain ⟨a, pv⟩ := p
      simp only [mview, mtold, List.map_cons, List.cons.injEq, Prod.mk.injEq] at h
      obtain ⟨⟨ha, hv⟩, hr⟩ := h
      by_cases hs : a = s
      · subst hs
        refine ⟨some (n, e.val), ?_, ?_, ?_, ?_⟩
        · simp [Instr.findNow, Instr.sameNow, ha, bytes_beq]
        · simp [mfind, hv]
        · intro i v h
          injection h with h
          injection h with h1 h2
          subst h1
          refine ⟨Nat.le_refl _, ⟨e, by simp, ha⟩, fun u => ?_⟩
          simp only [Nat.sub_self, List.modify_zero_cons, mview, mtold, mput, if_true, List.map_cons]
          rw [hr]
        · intro h; cases h
      · obtain ⟨r, h1, h2, h3, h4⟩ := ih l (n + 1) hr
        refine ⟨r, ?_, ?_, ?_, ?_⟩
        · have : ¬ (s = a) := fun h => hs h.symm
          simp [Instr.findNow, Instr.sameNow, ha, bytes_beq, this, h1]
        · simp [mfind, hs, h2]
        · intro i v hr'
          obtain ⟨g1, ⟨e', g2, g3⟩, g4⟩ := h3 i v hr'
          refine ⟨by omega, ⟨e', by rw [show i - n = (i - (n + 1)) + 1 from by omega]; simpa using g2, g3⟩, fun u => ?_⟩
          rw [show i - n = (i - (n + 1)) + 1 from by omega]
          have := g4 u
          simp only [mview, mtold, mput, if_neg hs, List.modify_succ_cons, List.map_cons, ha, hv] at this ⊢
          rw [this]
        · intro hr' u
          have := h4 hr' u
          simp only [mtold, mput, if_neg hs, List.map_cons] at this ⊢
          rw [this]; rfl

def KK.mapKey (P : Program) : KK → Bool
  | .map k _ => (kindOf P k).isStr
  | _ => false
def mapElem : KK → TypeId
  | .map _ e => e
  | _ => 0
theorem mapKey_desc {d : TypeDesc} (h : (kkOf d).mapKey P = true) : ∃ k, d = .map k (mapElem (kkOf d)) ∧ P.underlying k = some .string := by
  cases d <;> simp [kkOf, KK.mapKey] at h
  rename_i k e
  refine ⟨k, rfl, ?_⟩
  unfold kindOf at h
  split at h
  · rename_i d hd
    rw [isStr_desc h] at hd; exact hd
  · simp [KK.isStr] at h

theorem run_checkKey_str {k : TypeId} (hu : P.underlying k = some .string) (s : ByteArray) (b : Bool) (n : Nat) (w : World) : (Instr.checkKey b (n + 1) k (.string s)).run P w = .ok () w := by
  unfold Instr.checkKey
  simp [run_underlying hu]

/-- A zero value of one cell. -/
def zone (P : Program) (t : TypeId) : Bool := match (P.info? t).bind (·.zero) with
  | some z => z.oneCell'
  | none => false
def entriesOf (x : D) (σ : Store) : Option (List (ByteArray × Value)) :=
  match x with
  | .lit (.map (some r)) => match σ r with
    | some (.hmap es) => some es
    | _ => none
  | .lit (.map none) => some []
  | _ => none
def hlookup (P : Program) (T E : TI) (x ix : D) (ok : Bool) (σ : Store) (K : D → Prop) : Prop :=
  match entriesOf x σ, ix, E.zero with
  | some es, .lit (.string s), some [z] => T.kk.mapKey P = true ∧ K (if ok then .tup [match mfind s es with | some v => .lit v | none => z, .bool (mfind s es).isSome] else match mfind s es with | some v => .lit v | none => z)
  | _, _, _ => False

theorem lookup_goes (h : Sim w0 M σ w) {t : TypeId} {T E : TI} (hT : ti P t = some T) (hE : ti P (mapElem T.kk) = some E) (hz : zone P (mapElem T.kk) = true) {vx vi : Value} {x ix : D} (hx : Den M vx x) (hi : Den M vi ix) (ok : Bool) {K : D → Store → Prop} (hk : hlookup P T E x ix ok σ (K · σ)) :
    Goes P (Instr.lookup t vx vi ok) w0 M w K := by
  obtain ⟨d, hu, hkk⟩ := kk_desc hT
  unfold hlookup at hk
  split at hk
  · rename_i es s z hes hzz
    obtain ⟨hmk, hk⟩ := hk
    have := den_lit_inv hi; subst this
    rw [hkk] at hmk
    obtain ⟨k, hd, hku⟩ := mapKey_desc hmk
    obtain ⟨ie, de, hie, -, -, -, -, e4, -⟩ := ti_some hE
    rw [hzz] at e4
    cases hz0 : ie.zero with
    | none => rw [hz0] at e4; cases e4
    | some zv =>
    have hone : zv.oneCell' = true := by simpa [zone, hie, hz0] using hz
    rw [hz0] at e4
    simp only [Option.map_some, Option.some.injEq, cells_one hone, List.map_cons, List.map_nil, List.cons.injEq, and_true] at e4
    subst e4
    have hzrun : ∀ w', (zeroValue (mapElem (kkOf d))).run P w' = .ok zv w' := fun w' => run_zeroValue (by rw [← hkk]; exact hie) hz0 w'
    -- what the machine finds
    have key : ∀ (ents : List MapEntry), mview ents = mtold es → (Instr.findKey k (.string s) ents).run P w = .ok (Instr.findNow .string (.string s) ents 0).get! w ∧ ((Instr.findNow .string (.string s) ents 0).get!).map (·.2) = mfind s es := by
      intro ents he
      obtain ⟨r, r1, r2, -, -⟩ := findNow_str s ents es 0 he
      refine ⟨?_, by rw [r1]; exact r2⟩
      simp [Instr.findKey, run_underlying hku, r1]
    have fin : ∀ (ents : Array MapEntry), mview ents.toList = mtold es → (∀ c : Sem Value, c = c → True) →
        ((do Instr.checkKey ents.isEmpty 10000 k (.string s)
             let (v, ok') ← match ← Instr.findKey k (.string s) ents.toList with
               | some (_, v) => pure (v, true)
               | none => pure (← zeroValue (mapElem (kkOf d)), false)
             pure (if ok then .tuple #[v, .bool ok'] else v) : Sem Value).run P w =
          .ok (if ok then .tuple #[(mfind s es).getD zv, .bool (mfind s es).isSome] else (mfind s es).getD zv) w) := by
      intro ents he _
      obtain ⟨k1, k2⟩ := key ents.toList he
      have hck := run_checkKey_str (P := P) hku s ents.isEmpty 9999 w
      simp only [Sem.run_bind, hck, Result.andThen_ok, k1]
      rw [← k2]
      cases hr : (Instr.findNow .string (.string s) ents.toList 0).get! with
      | none => simp [hzrun]
      | some p => simp
    have hden : Den M (if ok then .tuple #[(mfind s es).getD zv, .bool (mfind s es).isSome] else (mfind s es).getD zv) (if ok then .tup [match mfind s es with | some v => .lit v | none => zD1 zv, .bool (mfind s es).isSome] else match mfind s es with | some v => .lit v | none => zD1 zv) := by
      have h1 : Den M ((mfind s es).getD zv) (match mfind s es with | some v => .lit v | none => zD1 zv) := by
        cases mfind s es with
        | none => exact den_zD1 zv
        | some v => exact .lit v
      split
      · refine .tup _ _ rfl (fun i d hd => ?_)
        match i with
        | 0 => simp at hd; subst hd; simpa using h1
        | 1 => simp at hd; subst hd; exact .lit _
        | n + 2 => simp at hd
      · exact h1
    unfold entriesOf at hes
    split at hes
    · rename_i r
      have := den_lit_inv hx; subst this
      split at hes
      · rename_i es' hσ
        injection hes with hes; subst hes
        obtain ⟨ents, clock, hb, hv⟩ := h.maps r _ hσ
        refine Goes.pure h ?_ hden hk
        have hg : (getObj r).run P w = .ok (.map ents clock) w := by simp [getObj, Sem.run, hb]
        rw [hd] at hu
        simp only [Instr.lookup, Sem.run_bind, run_underlying hu, Result.andThen_ok, hg, Sem.run_pure]
        have := fin ents hv (fun _ _ => trivial)
        simp only [Sem.run_bind] at this
        exact this
      · cases hes
    · have := den_lit_inv hx; subst this
      injection hes with hes; subst hes
      refine Goes.pure h ?_ hden hk
      rw [hd] at hu
      simp only [Instr.lookup, Sem.run_bind, run_underlying hu, Result.andThen_ok, Sem.run_pure]
      have := fin #[] rfl (fun _ _ => trivial)
      simp only [Sem.run_bind] at this
      exact this
    · cases hes
  · exact hk.elim

def hmapUpdate (P : Program) (T : TI) (x ix y : D) (σ : Store) (K : Store → Prop) : Prop :=
  match x, ix, y with
  | .lit (.map (some r)), .lit (.string s), .lit v => match σ r with
    | some (.hmap es) => T.kk.mapKey P = true ∧ K (σ.set r (.hmap (mput s v es)))
    | _ => False
  | _, _, _ => False

theorem mapUpdate_goes (h : Sim w0 M σ w) {t : TypeId} {T : TI} (hT : ti P t = some T) {vx vi vy : Value} {x ix y : D} (hx : Den M vx x) (hi : Den M vi ix) (hy : Den M vy y) {K : Store → Prop} (hk : hmapUpdate P T x ix y σ K) :
    ∃ w' σ', (Instr.mapUpdate t vx vi vy).run P w = .ok () w' ∧ Sim w0 M σ' w' ∧ K σ' := by
  obtain ⟨d, hu, hkk⟩ := kk_desc hT
  unfold hmapUpdate at hk
  split at hk
  · rename_i r s v
    have := den_lit_inv hx; subst this
    have := den_lit_inv hi; subst this
    have := den_lit_inv hy; subst this
    split at hk
    · rename_i es hσ
      obtain ⟨hmk, hk⟩ := hk
      rw [hkk] at hmk
      obtain ⟨k, hd, hku⟩ := mapKey_desc hmk
      rw [hd] at hu
      obtain ⟨ents, clock, hb, hv⟩ := h.maps r _ hσ
      have hg : (getObj r).run P w = .ok (.map ents clock) w := by simp [getObj, Sem.run, hb]
      have hset : ∀ o : Obj, (setObj r o).run P w = .ok () { w with heap := w.heap.setIfInBounds r o } := fun o => by simp [setObj, Sem.run, hb]
      have hck := run_checkKey_str (P := P) hku s false 9999 w
      obtain ⟨q, q1, q2, q3, q4⟩ := findNow_str s ents.toList es 0 hv
      have hfk : (Instr.findKey k (.string s) ents.toList).run P w = .ok q w := by simp [Instr.findKey, run_underlying hku, q1]
      have hlt := (Array.getElem?_eq_some_iff.1 hb).1
      have turn : ∀ (ents' : Array MapEntry) (cl : Nat) (es' : List (ByteArray × Value)), mview ents'.toList = mtold es' → Sim w0 M (σ.set r (.hmap es')) { w with heap := w.heap.setIfInBounds r (.map ents' cl) } := by
        intro ents' cl es' he
        refine h.turn r _ ⟨_, hσ⟩ (MLe.refl M) (fun _ _ _ => rfl) rfl rfl rfl (by simp) (fun b hb' => by simp only [Array.getElem?_setIfInBounds]; rw [if_neg (by omega)]) (fun o v e => ?_) (fun _ hh => by cases hh) (fun _ _ _ hh => by cases hh) (fun es'' hh => ?_)
        · have := (h.mem r o v e).1
          simp [World.cell?, hb] at this
        · injection hh with hh; subst hh
          exact ⟨ents', cl, by simp [Array.getElem?_setIfInBounds, hlt], he⟩
      cases hq : q with
      | none =>
        subst hq
        refine ⟨_, _, ?_, turn (ents.push { key := .string s, val := vy, born := clock }) (clock + 1) _ ?_, hk⟩
        · simp only [Instr.mapUpdate, Sem.run_bind, run_underlying hu, Result.andThen_ok, hg, hck, hfk, hset]
        · rw [q4 rfl vy, show mtold es = mview ents.toList from hv.symm]
          simp [mview]
      | some p =>
        obtain ⟨i, pv⟩ := p
        subst hq
        obtain ⟨-, ⟨e', g2, g3⟩, g4⟩ := q3 i pv rfl
        simp only [Nat.sub_zero] at g2 g4
        have hstay : (Instr.keyThatStays (((ents[i]?).map (·.key)).getD (.string s)) (.string s)).run P w = .ok (.string s) w := by
          rw [Array.getElem?_toList] at g2
          simp [g2, g3, Instr.keyThatStays, Instr.sameBits, bytes_beq]
        refine ⟨_, _, ?_, turn (ents.modify i fun e => { e with key := .string s, val := vy }) clock _ ?_, hk⟩
        · simp only [Instr.mapUpdate, Sem.run_bind, run_underlying hu, Result.andThen_ok, hg, hck, hfk, hstay, hset]
        · rw [← g4 vy]
          simp [mview, Array.toList_modify]
    · exact hk.elim
  · exact hk.elim
end Go.HL
/- HL, part J: lengths, makes, clears, copies. -/
set_option linter.unusedVariables false
set_option linter.unusedSimpArgs false
namespace Go.HL
open Go.RowKit
variable {P : Program} {w0 w : World} {M : Mem} {σ : Store}

/-! len, cap -/
def hlen (T : TI) (d : D) (σ : Store) (K : D → Prop) : Prop :=
  match d with
  | .list es _ => T.kk.isSlice = true ∧ K (.int .i64 es.length)
  | .lit (.slice _ n _) => T.kk.isSlice = true ∧ K (.int .i64 n)
  | .lit (.string s) => T.kk.isStr = true ∧ K (.int .i64 s.size)
  | .lit (.map r) => match entriesOf d σ with
    | some es => (match T.kk with | .map _ _ => True | _ => False) ∧ K (.int .i64 es.length)
    | none => False
  | _ => False

theorem isSlice_desc {d : TypeDesc} (h : (kkOf d).isSlice = true) : ∃ e, d = .slice e := by cases d <;> simp [kkOf, KK.isSlice] at h; exact ⟨_, rfl⟩

theorem len_goes (h : Sim w0 M σ w) {t : TypeId} {T : TI} (hT : ti P t = some T) (ty : TypeId) {v : Value} {d : D} (hv : Den M v d) {K : D → Store → Prop} (hk : hlen T d σ (K · σ)) : Goes P (Builtin.len_ #[t] ty #[v]) w0 M w K := by
  obtain ⟨dd, hu, hkk⟩ := kk_desc hT
  unfold hlen at hk
  split at hk
  · obtain ⟨a, c, k, b, o, cv, rfl, -⟩ := den_list_inv hv
    refine Goes.pure h ?_ (.lit _) hk.2
    have := hk.1; rw [hkk] at this
    obtain ⟨e, rfl⟩ := isSlice_desc this
    simp [Builtin.len_, run_underlying hu, goInt]
  · have := den_lit_inv hv; subst this
    refine Goes.pure h ?_ (.lit _) hk.2
    have := hk.1; rw [hkk] at this
    obtain ⟨e, rfl⟩ := isSlice_desc this
    simp [Builtin.len_, run_underlying hu, goInt]
  · have := den_lit_inv hv; subst this
    refine Goes.pure h ?_ (.lit _) hk.2
    have := hk.1; rw [hkk] at this
    obtain rfl := isStr_desc this
    simp [Builtin.len_, run_underlying hu, goInt]
  · rename_i r
    have := den_lit_inv hv; subst this
    split at hk
    · rename_i es hes
      obtain ⟨h1, hk⟩ := hk
      rw [hkk] at h1
      cases dd <;> simp [kkOf] at h1
      refine Goes.pure h ?_ (.lit _) hk
      unfold entriesOf at hes
      split at hes
      · rename_i r' hr'
        injection hr' with hr'; injection hr' with hr'; subst hr'
        split at hes
        · rename_i es' hσ
          injection hes with hes; subst hes
          obtain ⟨ents, clock, hb, hv'⟩ := h.maps r' _ hσ
          have hg : (getObj r').run P w = .ok (.map ents clock) w := by simp [getObj, Sem.run, hb]
          have hl : ents.size = es'.length := by have := congrArg List.length hv'; simpa using this
          simp [Builtin.len_, run_underlying hu, hg, goInt, hl]
        · cases hes
      · rename_i hr'
        injection hr' with hr'; injection hr' with hr'; subst hr'
        injection hes with hes; subst hes
        simp [Builtin.len_, run_underlying hu, goInt]
      · cases hes
    · exact hk.elim
  · exact hk.elim

/-! min, max of numbers -/
def hminmax (mx : Bool) : List D → (D → Prop) → Prop
  | [.lit (.int k a), .lit (.int k' b)], K => K (.int k (if mx then (if b > a then b else a) else (if b < a then b else a)))
  | _, _ => False
theorem min_goes (h : Sim w0 M σ w) (ts : Array TypeId) (ty : TypeId) (vs : Array Value) (ds : List D) (hl : vs.size = ds.length) (hd : ∀ (i : Nat) (d : D), ds[i]? = some d → Den M (vs.getD i undef) d) {K : D → Store → Prop} (hk : hminmax false ds (K · σ)) :
    Goes P (Builtin.min_ ts ty vs) w0 M w K := by
  unfold hminmax at hk
  split at hk
  · rename_i k a k' b
    have e0 := den_lit_inv (hd 0 _ rfl)
    have e1 := den_lit_inv (hd 1 _ rfl)
    have : vs = #[.int k a, .int k' b] := by
      apply Array.ext' ; apply List.ext_getElem? ; intro i
      match i with
      | 0 => simp at hl; simp [Array.getD, show 0 < vs.size by omega] at e0; simp [e0, show 0 < vs.size by omega]
      | 1 => simp at hl; simp [Array.getD, show 1 < vs.size by omega] at e1; simp [e1, show 1 < vs.size by omega]
      | n + 2 => simp at hl; simp; omega
    subst this
    exact Goes.pure h (by simp [Builtin.min_, Builtin.min2]) (.lit _) hk
  · exact hk.elim
theorem max_goes (h : Sim w0 M σ w) (ts : Array TypeId) (ty : TypeId) (vs : Array Value) (ds : List D) (hl : vs.size = ds.length) (hd : ∀ (i : Nat) (d : D), ds[i]? = some d → Den M (vs.getD i undef) d) {K : D → Store → Prop} (hk : hminmax true ds (K · σ)) :
    Goes P (Builtin.max_ ts ty vs) w0 M w K := by
  unfold hminmax at hk
  split at hk
  · rename_i k a k' b
    have e0 := den_lit_inv (hd 0 _ rfl)
    have e1 := den_lit_inv (hd 1 _ rfl)
    have : vs = #[.int k a, .int k' b] := by
      apply Array.ext' ; apply List.ext_getElem? ; intro i
      match i with
      | 0 => simp at hl; simp [Array.getD, show 0 < vs.size by omega] at e0; simp [e0, show 0 < vs.size by omega]
      | 1 => simp at hl; simp [Array.getD, show 1 < vs.size by omega] at e1; simp [e1, show 1 < vs.size by omega]
      | n + 2 => simp at hl; simp; omega
    subst this
    exact Goes.pure h (by simp [Builtin.max_, Builtin.max2]) (.lit _) hk
  · exact hk.elim

/-! make([]T, n) -/
def hmake (T E : TI) (l c : D) (σ : Store) (K : D → Store → Prop) : Prop :=
  match l, c, E.zero with
  | .lit (.int .i64 n), .lit (.int .i64 m), some z => (n = m ∧ 0 ≤ n ∧ E.bytes * n ≤ 140737488355328 ∧ n ≤ 9223372036854775807 ∧ z.length = E.size) ∧ ∀ b, σ b = none → K (.lit (.slice (some ⟨b, 0, none⟩) n.toNat n.toNat)) (σ.set b (.cells (zrep n.toNat z)))
  | _, _, _ => False
theorem make_goes (h : Sim w0 M σ w) {t e : TypeId} {T E : TI} (hT : ti P t = some T) (hE : ti P e = some E) (hkk : T.kk = .slice e) (hz : zfit P e = true) {vl vc : Value} {l c : D} (hl : Den M vl l) (hc : Den M vc c) {K : D → Store → Prop} (hk : hmake T E l c σ K) :
    Goes P (Instr.makeSlice t vl vc) w0 M w K := by
  have hu := kk_slice hT hkk
  obtain ⟨i, d, hi, hd, e1, e2, e3, -, -⟩ := ti_some hE
  unfold hmake at hk
  split at hk
  · rename_i n m zs hzs
    obtain ⟨⟨rfl, h0, h1, h2, h3⟩, hk⟩ := hk
    have := den_lit_inv hl; subst this
    have := den_lit_inv hc; subst this
    obtain ⟨q, rfl⟩ := Int.eq_ofNat_of_zero_le h0
    obtain ⟨z, zs', hz1, hz2, hz3, hz4⟩ := zero_pts (M := M) hE hz hi
    rw [hzs] at hz2; injection hz2 with hz2; subst hz2
    rw [e3] at h1
    have hrun := run_make (P := P) w t e i z hu hi hz1 .i64 .i64 q q (by omega) (Int.le_refl _) (by omega) (by omega)
    have hpts : Pts M (madeCells z.cells ((q : Int).toNat * i.size)) (zrep q zs) := pts_zeros hz3 q _ (by rw [h3, e2]; simp)
    exact ⟨_, _, M, _, _, hrun, MLe.refl M, h.alloc_cells _ e _ hpts.size hpts.one hpts.den, .lit _, by simpa using hk _ h.fresh⟩
  · exact hk.elim

/-! clear, copy -/
theorem write_pts (h : Sim w0 M σ w) {b : Nat} {ds : List D} (e : σ b = some (.cells ds)) (o : Nat) {vs : Array Value} {cs : List D} (hp : Pts M vs cs) (hfit : o + cs.length ≤ ds.length) :
    ∃ w', (storeCells ⟨b, o, none⟩ vs.toList).run P w = .ok () w' ∧ Sim w0 M (σ.set b (.cells (spl ds o cs))) w' :=
  h.write (P := P) e o vs.toList cs (by simpa using hp.size) hfit (fun v hv => by
    obtain ⟨j, hj, rfl⟩ := List.getElem_of_mem hv
    have hj' : j < vs.size := by simpa using hj
    have := hp.one j hj'
    simpa [Array.getD, hj'] using this) (fun j y hy => by
    have := hp.den j y hy
    simpa [List.getD_eq_getElem?_getD, Array.getD_eq_getD_getElem?] using this)

def hclear (E : TI) (d : D) (σ : Store) (K : D → Store → Prop) : Prop :=
  match d, E.zero with
  | .lit (.slice (some ⟨b, o, none⟩) n _), some z => if n = 0 then K (.tup []) σ else match σ b with
    | some (.cells ds) => (z.length = E.size ∧ o + n * E.size ≤ ds.length) ∧ K (.tup []) (σ.set b (.cells (spl ds o (zrep n z))))
    | _ => False
  | .list [] _, _ => K (.tup []) σ
  | _, _ => False
theorem clear_goes (h : Sim w0 M σ w) {t e : TypeId} {T E : TI} (hT : ti P t = some T) (hE : ti P e = some E) (hkk : T.kk = .slice e) (hz : zfit P e = true) (ty : TypeId) {v : Value} {d : D} (hv : Den M v d) {K : D → Store → Prop} (hk : hclear E d σ K) :
    Goes P (Builtin.clear_ #[t] ty #[v]) w0 M w K := by
  have hu := kk_slice hT hkk
  obtain ⟨i, dd, hi, hd, e1, e2, e3, -, -⟩ := ti_some hE
  have hnil : Den M (.tuple #[]) (.tup []) := .tup _ _ rfl (by intro i d hd; simp at hd)
  unfold hclear at hk
  split at hk
  · rename_i b o n c zs hzs
    have := den_lit_inv hv; subst this
    obtain ⟨z, zs', hz1, hz2, hz3, hz4⟩ := zero_pts (M := M) hE hz hi
    rw [hzs] at hz2; injection hz2 with hz2; subst hz2
    split at hk
    · rename_i hn; subst hn
      exact Goes.pure h (by simp [Builtin.clear_, run_underlying hu]) hnil hk
    · rename_i hn
      split at hk
      · rename_i ds hσ
        obtain ⟨⟨h1, h2⟩, hk⟩ := hk
        obtain ⟨w', r1, r2⟩ := write_pts (P := P) h hσ o (pts_zeros hz3 n (n * z.cells.size) (by rw [hz4])) (by rw [zrep_length, h1]; exact h2)
        refine ⟨_, w', M, _, _, ?_, MLe.refl M, r2, hnil, hk⟩
        obtain ⟨m, rfl⟩ : ∃ m, n = m + 1 := ⟨n - 1, by omega⟩
        simp only [Builtin.clear_, List.getElem?_toArray, List.getElem?_cons_zero, Sem.run_bind, run_underlying hu, Result.andThen_ok, run_zeroValue hi hz1, Builtin.zeroCells]
        simp only [Array.toList_map, Array.toList_range] at r1
        simp [r1]
      · exact hk.elim
  · obtain ⟨a, c, k, b, o, cv, rfl, -⟩ := den_list_inv hv
    refine Goes.pure h ?_ hnil hk
    cases a <;> simp [Builtin.clear_, run_underlying hu]
  · exact hk.elim

theorem take_flatten {k : Nat} (xs : List (List D)) (h : ∀ e ∈ xs, e.length = k) (m : Nat) (hm : m ≤ xs.length) : (xs.take m).flatten = xs.flatten.take (m * k) := by
  induction xs generalizing m with
  | nil => simp at hm; subst hm; simp
  | cons x xs ih =>
    cases m with
    | zero => simp
    | succ m =>
      have hx := h x (by simp)
      simp only [List.take_succ_cons, List.flatten_cons]
      rw [ih (fun e he => h e (by simp [he])) m (by simpa using hm), Nat.succ_mul, Nat.add_comm, ← hx, List.take_length_add_append]

/-- Only a front of what is handed over is read. -/
theorem src_front (h : Sim w0 M σ w) {v : Value} {x : D} (hv : Den M v x) {k : Nat} {xs : List (List D)} (hs : srcE k x σ = some xs) (hk : SizedAs x k) (hk1 : ∀ s, x = .str s → k = 1) (hpos : 0 < k) (m : Nat) (hm0 : m ≤ xs.length) :
    ∃ news : Array Value, (Builtin.firstCells k m v).run P w = .ok news w ∧ Pts M news (xs.take m).flatten := by
  obtain ⟨l1, l2, news, l3, l4⟩ := src_reads (P := P) h hv hs hk hk1 hpos
  obtain ⟨x1, -⟩ := flatten_get xs l2
  rw [take_flatten xs l2 m hm0]
  have hmk : m * k ≤ xs.length * k := Nat.mul_le_mul_right _ hm0
  have load : ∀ b o, Holds M w b o xs.flatten → ∃ news : Array Value, (loadCells ⟨b, o, none⟩ (m * k)).run P w = .ok news w ∧ Pts M news (xs.flatten.take (m * k)) := fun b o hh => by
    obtain ⟨vs, q1, q2, q3, q4⟩ := (hh.take (m * k)).loadCells (P := P)
    have : (xs.flatten.take (m * k)).length = m * k := by rw [List.length_take, x1]; omega
    rw [this] at q1
    exact ⟨vs, q1, q2, q3, q4⟩
  unfold srcE at hs
  split at hs
  · rename_i xs' tok
    injection hs with hs; subst hs
    rcases Nat.eq_zero_or_pos xs'.length with h0 | h0
    · obtain ⟨a, c, k', b, o, cv, rfl, -⟩ := den_list_inv hv
      obtain rfl : m = 0 := by omega
      refine ⟨#[], ?_, by simp, by intro i hi; simp at hi, by intro i d hd; simp at hd⟩
      cases a <;> simp [Builtin.firstCells, loadCells, loadCellsFrom]
    · obtain ⟨a, c, k', b, o, cv, rfl, hc, hc2, ha, hlen, hm, hd, ht⟩ := den_list_inv hv
      obtain rfl := ha h0
      have hk' : k' = k := by rw [← hlen 0 _ (List.getElem?_eq_getElem h0)]; exact hk _ (List.getElem_mem h0)
      subst hk'
      obtain ⟨f1, f2⟩ := flatten_get xs' hk
      have hh : Holds M w b o xs'.flatten := by
        refine ⟨fun p => cv (p / k') (p % k'), fun p hp => ?_⟩
        rw [f1] at hp
        have hq : p / k' < xs'.length := Nat.div_lt_of_lt_mul (by rw [Nat.mul_comm]; exact hp)
        have hr : p % k' < k' := Nat.mod_lt _ hpos
        have hM := hm _ _ hq hr
        have hpe : p / k' * k' + p % k' = p := by rw [Nat.mul_comm]; exact Nat.div_add_mod p k'
        rw [Nat.add_assoc, hpe] at hM
        obtain ⟨m1, m2⟩ := h.mem _ _ _ hM
        refine ⟨m1, m2, fun d hd' => ?_⟩
        have he := List.getElem?_eq_getElem hq
        have := f2 _ _ _ he hr
        rw [hpe] at this
        rw [this] at hd'
        exact hd _ _ _ d he hd'
      obtain ⟨news, q1, q2⟩ := load b o hh
      exact ⟨news, by simpa [Builtin.firstCells] using q1, q2⟩
  · rename_i b o m' c
    have := den_lit_inv hv; subst this
    split at hs
    · rename_i ds e
      split at hs
      · rename_i hfit
        injection hs with hs; subst hs
        have hh := ((holds_cells h e).drop o).take (m' * k)
        rw [Nat.zero_add, ← chunk_flatten _ _ _ (by simp; omega)] at hh
        obtain ⟨news, q1, q2⟩ := load b o hh
        exact ⟨news, by simpa [Builtin.firstCells] using q1, q2⟩
      · cases hs
    · cases hs
  · rename_i s
    have := den_lit_inv hv; subst this
    injection hs with hs; subst hs
    obtain rfl := hk1 s rfl
    have hfl : (bytesD s).flatten = s.data.toList.map fun b => D.int .u8 (b.toNat : Int) := by
      simp [bytesD, List.flatten_eq_flatMap, List.flatMap_map]
      rw [List.map_eq_flatMap]
    rw [hfl]
    have hms : m ≤ s.size := by simpa [bytesD] using hm0
    refine ⟨(s.extract 0 m).data.map (fun b => Value.int .u8 b.toNat), by simp [Builtin.firstCells], ?_⟩
    refine ⟨by simp, fun i hi => ?_, fun i d hd => ?_⟩
    · simp at hi
      simp [Array.getD, hi, Value.oneCell']
    · rw [List.getElem?_take] at hd
      split at hd
      · rename_i hlt
        rw [List.getElem?_map] at hd
        obtain ⟨y, hy, rfl⟩ := Option.map_eq_some_iff.1 hd
        rw [Array.getElem?_toList] at hy
        obtain ⟨y1, y2⟩ := Array.getElem?_eq_some_iff.1 hy
        have y3 : i < s.size := y1
        have : (((s.extract 0 m).data.map fun b => Value.int .u8 (b.toNat : Int)).getD i undef) = .int .u8 (y.toNat : Int) := by
          have h1 : (s.extract 0 m).data = s.data.extract 0 m := by simp
          rw [h1]
          have h2 : i < min m s.data.size := by simp at hlt; omega
          simp [Array.getD, h2, y2]
          intro h3; exfalso; simp at hlt; omega
        rw [this]; exact .lit _
      · cases hd
  · cases hs

def hcopy (E : TI) (d x : D) (σ : Store) (K : D → Store → Prop) : Prop :=
  match d, srcE E.size x σ with
  | .lit (.slice (some ⟨b, o, none⟩) n _), some xs => match σ b with
    | some (.cells ds) => (0 < E.size ∧ o + n * E.size ≤ ds.length) ∧ K (.int .i64 (min xs.length n : Nat)) (σ.set b (.cells (spl ds o (xs.take (min xs.length n)).flatten)))
    | _ => False
  | .list [] _, some xs => K (.int .i64 0) σ
  | _, _ => False
theorem copy_goes (h : Sim w0 M σ w) {t u e : TypeId} {T E : TI} (hT : ti P t = some T) (hE : ti P e = some E) (hkk : T.kk = .slice e) (ty : TypeId) {vd vx : Value} {d x : D} (hd : Den M vd d) (hx : Den M vx x) (hkx : SizedAs x E.size) (hk1 : ∀ s, x = .str s → E.size = 1) (hpos0 : 0 < E.size) {K : D → Store → Prop} (hk : hcopy E d x σ K) :
    Goes P (Builtin.copy_ #[t, u] ty #[vd, vx]) w0 M w K := by
  have hu := kk_slice hT hkk
  obtain ⟨i, dd, hi, hdd, e1, e2, e3, -, -⟩ := ti_some hE
  unfold hcopy at hk
  split at hk
  · rename_i b o n c xs hxs
    have := den_lit_inv hd; subst this
    split at hk
    · rename_i ds hσ
      obtain ⟨⟨hpos, hfit⟩, hk⟩ := hk
      -- only a front of the source is read
      obtain ⟨l1, l2, news, l3, l4⟩ := src_reads (P := P) h hx hxs hkx hk1 hpos
      have hfront : ∃ fr : Array Value, (Builtin.firstCells E.size (min xs.length n) vx).run P w = .ok fr w ∧ Pts M fr (xs.take (min xs.length n)).flatten := src_front h hx hxs hkx hk1 hpos _ (Nat.min_le_left _ _)
      obtain ⟨fr, f1, f2⟩ := hfront
      obtain ⟨x1, -⟩ := flatten_get (xs.take (min xs.length n)) (k := E.size) (fun e he => l2 e (List.mem_of_mem_take he))
      have hlen : (xs.take (min xs.length n)).length = min xs.length n := by simp
      obtain ⟨w', r1, r2⟩ := write_pts (P := P) h hσ o f2 (by
        rw [x1, hlen]
        have : min xs.length n * E.size ≤ n * E.size := Nat.mul_le_mul_right _ (Nat.min_le_right _ _)
        omega)
      refine ⟨_, w', M, _, _, ?_, MLe.refl M, r2, .lit _, hk⟩
      rw [e2] at f1
      have hmin : Nat.min xs.length n = min xs.length n := rfl
      simp [Builtin.copy_, run_underlying hu, l1, run_sizeOf hi, hmin, f1, r1, goInt]
    · exact hk.elim
  · rename_i tok xs hxs
    obtain ⟨a, c, k, b, o, cv, rfl, -⟩ := den_list_inv hd
    obtain ⟨l1, -, -⟩ := src_reads (P := P) h hx hxs hkx hk1 hpos0
    refine Goes.pure h ?_ (.lit _) hk
    obtain ⟨fr, f1, f2⟩ := src_front (P := P) h hx hxs hkx hk1 hpos0 0 (Nat.zero_le _)
    have hfr : fr = #[] := by have := f2.size; simp at this; exact this
    subst hfr
    have hz : (Builtin.firstCells i.size 0 vx).run P w = .ok #[] w := by rw [← e2]; exact f1
    cases a <;> simp [Builtin.copy_, run_underlying hu, l1, run_sizeOf hi, hz, goInt, storeCells]
  · exact hk.elim
end Go.HL
/- HL, part K: an operation, told plainly; a call's contract. -/
set_option linter.unusedVariables false
set_option linter.unusedSimpArgs false
namespace Go.HL
open Go.RowKit
variable {P : Program} {w0 w : World} {M : Mem} {σ : Store}

abbrev Env := Nat → D
def upd (e : Env) (t : Nat) (d : D) : Env := fun s => if s = t then d else e s
def ev (env : Env) : Operand → D
  | .tmp t => env t
  | .const v => zD v
  | .global g => .ptr g 0
  | .func f => .lit (.func (.func f) #[] #[])
def EnvOk (M : Mem) (tmps : Array Value) (env : Env) : Prop := ∀ t, t < tmps.size → Den M (tmps.getD t undef) (env t)
theorem EnvOk.mono {M M' : Mem} (hM : MLe M M') {tmps : Array Value} {env : Env} (h : EnvOk M tmps env) : EnvOk M' tmps env := fun t ht => (h t ht).mono hM
def opndOk (N : Nat) : Operand → Bool
  | .tmp t => decide (t < N)
  | _ => true
theorem den_ev {a : Act} {env : Env} (h : EnvOk M a.tmps env) {x : Operand} (hx : opndOk a.tmps.size x = true) : Den M (a.eval x) (ev env x) := by
  cases x with
  | tmp t => exact h t (by simpa [opndOk] using hx)
  | const v => exact den_zD v
  | global g => exact .lit _
  | func f => exact .lit _

/-- A call of function f with these: it returns, and of what it hands back, and of the store behind it, Q holds. -/
def HCalls (P : Program) (f : FuncId) (ds : List D) (σ : Store) (Q : D → Store → Prop) : Prop :=
  ∀ (w0 : World) (M : Mem) (w : World) (vs : Array Value), Sim w0 M σ w → vs.size = ds.length → (∀ (i : Nat) (d : D), ds[i]? = some d → Den M (vs.getD i undef) d) →
    Calls P f vs w fun e w' => ∃ v M' d σ', e = .returned v ∧ MLe M M' ∧ Sim w0 M' σ' w' ∧ Den M' v d ∧ Q d σ'
/-- The same of a function without a body, that the model answers for. -/
def HExt (P : Program) (f : FuncId) (ds : List D) (σ : Store) (Q : D → Store → Prop) : Prop :=
  ∀ (w0 : World) (M : Mem) (w : World) (vs : Array Value), Sim w0 M σ w → vs.size = ds.length → (∀ (i : Nat) (d : D), ds[i]? = some d → Den M (vs.getD i undef) d) →
    ∃ v w' M' d σ', (callFunc f vs).run P w = .ok (.value v) w' ∧ MLe M M' ∧ Sim w0 M' σ' w' ∧ Den M' v d ∧ Q d σ'
def entersB (P : Program) (f : FuncId) : Bool := match P.funcs[f]? with
  | some fn => fn.name != "runtime.NumGoroutine" && fn.body.isSome
  | none => false

theorem HCalls.mono {f : FuncId} {ds : List D} {Q Q' : D → Store → Prop} (h : HCalls P f ds σ Q) (hq : ∀ d σ', Q d σ' → Q' d σ') : HCalls P f ds σ Q' :=
  fun w0 M w vs hs hl hd => (h w0 M w vs hs hl hd).mono fun e w' ⟨v, M', d, σ', r1, r2, r3, r4, r5⟩ => ⟨v, M', d, σ', r1, r2, r3, r4, hq d σ' r5⟩

/-- What is asked of a type: all in one. -/
structure TX where
  T : TI
  zf : Bool
  fk : Bool
  zs : Bool
  zo : Bool
def tx (P : Program) (t : TypeId) : Option TX := (ti P t).map fun T => ⟨T, zfit P t, fldsKnown P t, zsize P t, zone P t⟩
theorem tx_some {t : TypeId} {X : TX} (h : tx P t = some X) : ti P t = some X.T ∧ X.zf = zfit P t ∧ X.fk = fldsKnown P t ∧ X.zs = zsize P t ∧ X.zo = zone P t := by
  unfold tx at h
  obtain ⟨T, hT, rfl⟩ := Option.map_eq_some_iff.1 h
  exact ⟨hT, rfl, rfl, rfl, rfl⟩
def wtx (P : Program) (t : TypeId) (f : TX → Prop) : Prop := match tx P t with
  | some X => f X
  | none => False
def wel (P : Program) (T : TI) (f : TX → Prop) : Prop := match T.kk with
  | .slice e => wtx P e f
  | _ => False
def hcond (d : D) (A B : Prop) : Prop := match d with
  | .lit (.bool t) => (t = true → A) ∧ (t = false → B)
  | _ => False
def capOk : D → Bool
  | .lit (.slice (some _) n c) => decide (n ≤ c)
  | .lit (.string _) => false
  | _ => true
def srcT (P : Program) (u : TypeId) (x : D) : Prop := wtx P u fun X => (X.T.kk.isSlice = true ∨ X.T.kk.isStr = true)

def hbuiltin (P : Program) (lm : Bool) (b : Builtin) (ts : Array TypeId) (ds : List D) (σ : Store) (K : D → Store → Prop) : Prop :=
  match b, ts.toList, ds with
  | .len, [t], [d] => wtx P t fun X => hlen X.T d σ (K · σ)
  | .append, [t, u], [a, x] => wtx P t fun X => wel P X.T fun E => (srcT P u x ∧ E.zf = true ∧ E.zs = true ∧ SizedAs a E.T.size ∧ SizedAs x E.T.size ∧ (∀ s, x = .str s → E.T.size = 1)) ∧ happend lm E.T a x σ K
  | .min, _, ds => hminmax false ds (K · σ)
  | .max, _, ds => hminmax true ds (K · σ)
  | .clear, [t], [d] => wtx P t fun X => wel P X.T fun E => E.zf = true ∧ hclear E.T d σ K
  | .copy, [t, u], [d, x] => wtx P t fun X => wel P X.T fun E => (SizedAs x E.T.size ∧ (∀ s, x = .str s → E.T.size = 1) ∧ 0 < E.T.size) ∧ hcopy E.T d x σ K
  | _, _, _ => False

def hnil (d : D) (K : D → Prop) : Prop := match d with
  | .lit (.pointer (some a)) => K (.lit (.pointer (some a)))
  | .iptr ds => K (.iptr ds)
  | .lit (.func (.func f) x y) => K (.lit (.func (.func f) x y))
  | _ => False

def hop (P : Program) (lm : Bool) (o : Op) (env : Env) (σ : Store) (K : D → Store → Prop) : Prop :=
  match o with
  | .move x => K (ev env x) σ
  | .assign x => K (ev env x) σ
  | .pick c a b => hcond (ev env c) (K (ev env a) σ) (K (ev env b) σ)
  | .alloc e => wtx P e fun X => X.zf = true ∧ match X.T.zero with
    | some zs => ∀ b, σ b = none → K (.ptr b 0) (σ.set b (.cells zs))
    | none => False
  | .box _ v => fitD (ev env v) = true ∧ ∀ b, σ b = none → K (.ptr b 0) (σ.set b (.cells (cellsD (ev env v))))
  | .build t parts => wtx P t fun X => (X.zf = true ∧ X.fk = true) ∧ hbuild X.T (parts.toList.map fun p => (p.1, ev env p.2)) (K · σ)
  | .buildSlice t n parts => wtx P t fun X => wel P X.T fun E => E.zf = true ∧ hbuildSlice lm E.T n (parts.toList.map fun p => (p.1, ev env p.2)) σ K
  | .load t a => wtx P t fun X => hload X.T (ev env a) σ (K · σ)
  | .store t a x => wtx P t fun X => hstore X.T (ev env a) (ev env x) σ (K (.lit undef))
  | .nilCheck x => hnil (ev env x) (K · σ)
  | .binOp op t x y _ => wtx P t fun X => hbin P op t X.T (isC x || isC y) (ev env x) (ev env y) (K · σ)
  | .unOp op _ x => hun op (ev env x) (K · σ)
  | .convert s t x => wtx P s fun S => wtx P t fun X => (SizedAs (ev env x) 1 ∧ ∀ y, ev env x = .str y → y.size ≤ 9223372036854775807) ∧ hconv P S.T X.T (ev env x) (K · σ)
  | .makeInterface t x => wtx P t fun X => hiface X.T t (ev env x) (K · σ)
  | .makeFunc fn first captured => match litsOf (first.toList.map (ev env)), litsOf (captured.toList.map (ev env)) with
    | some f, some c => K (.lit (.func fn f.toArray c.toArray)) σ
    | _, _ => False
  | .makeMap _ none => ∀ b, σ b = none → K (.lit (.map (some b))) (σ.set b (.hmap []))
  | .makeSlice t l c => wtx P t fun X => wel P X.T fun E => E.zf = true ∧ hmake X.T E.T (ev env l) (ev env c) σ K
  | .slice t x lo hi none => wtx P t fun X => match X.T.kk with
    | .str => (match ev env x with | .lit (.string _) => True | _ => False) ∧ hslice 0 (ev env x) (lo.map (ev env)) (hi.map (ev env)) (K · σ)
    | .slice e => wtx P e fun E => (SizedAs (ev env x) E.T.size ∧ capOk (ev env x) = true) ∧ hslice E.T.size (ev env x) (lo.map (ev env)) (hi.map (ev env)) (K · σ)
    | _ => False
  | .slice t x lo (some hi) (some mx) => wtx P t fun X => match X.T.kk with
    | .slice e => wtx P e fun E => hslice3 E.T.size (ev env x) (lo.map (ev env)) (ev env hi) (ev env mx) (K · σ)
    | _ => False
  | .fieldAddr t x f => wtx P t fun X => hfieldAddr X.T (ev env x) f (K · σ)
  | .field t x f => wtx P t fun X => hfield X.T (ev env x) f (K · σ)
  | .indexAddr t x i => wtx P t fun X => wel P X.T fun E => SizedAs (ev env x) E.T.size ∧ hindexAddr E.T.size (ev env x) (ev env i) (K · σ)
  | .index t x i => wtx P t fun X => X.T.kk.isStr = true ∧ hindex (ev env x) (ev env i) (K · σ)
  | .lookup t x i ok => wtx P t fun X => wtx P (mapElem X.T.kk) fun E => E.zo = true ∧ hlookup P X.T E.T (ev env x) (ev env i) ok σ (K · σ)
  | .mapUpdate t m k v => wtx P t fun X => hmapUpdate P X.T (ev env m) (ev env k) (ev env v) σ (K (.lit undef))
  | .extract x i => hextract (ev env x) i (K · σ)
  | .call c => match c.callee with
    | .builtin b => hbuiltin P lm b c.argTypes (c.args.toList.map (ev env)) σ K
    | .value f => match ev env f with
      | .lit (.func (.func g) first caps) =>
        if entersB P g then HCalls P g (first.toList.map .lit ++ c.args.toList.map (ev env) ++ caps.toList.map .lit) σ K
        else HExt P g (first.toList.map .lit ++ c.args.toList.map (ev env) ++ caps.toList.map .lit) σ K
      | _ => False
    | _ => False
  | _ => False

/-- What an operation leaves: its value in its place. -/
def After (w0 : World) (M : Mem) (o : Oper) (a : Act) (K : D → Store → Prop) (a' : Act) (w' : World) : Prop :=
  ∃ v M' d σ', a' = a.put o.dst v ∧ MLe M M' ∧ Sim w0 M' σ' w' ∧ Den M' v d ∧ K d σ'

theorem wp_of_goes {o : Oper} {a : Act} {Q : Exit → Act → World → Prop} {K : D → Store → Prop} {s : Sem Value} (he : execOp a.eval o = (do pure (.value (← s)))) (h : Goes P s w0 M w K) : o.wp P a w (After w0 M o a K) Q := by
  obtain ⟨v, w', M', d, σ', h1, h2, h3, h4, h5⟩ := h
  unfold Oper.wp
  rw [he]
  simp only [Sem.run_bind, h1, Result.andThen_ok, Sem.run_pure]
  exact ⟨v, M', d, σ', rfl, h2, h3, h4, h5⟩
theorem wp_of_unit {o : Oper} {a : Act} {Q : Exit → Act → World → Prop} {K : D → Store → Prop} {s : Sem Unit} (he : execOp a.eval o = (do s; pure .skip)) (h : ∃ w' σ', s.run P w = .ok () w' ∧ Sim w0 M σ' w' ∧ K (.lit undef) σ') : o.wp P a w (After w0 M o a K) Q := by
  obtain ⟨w', σ', h1, h2, h3⟩ := h
  unfold Oper.wp
  rw [he]
  simp only [Sem.run_bind, h1, Result.andThen_ok, Sem.run_pure]
  exact ⟨undef, M, .lit undef, σ', rfl, MLe.refl M, h2, .lit _, h3⟩

def opOk (N : Nat) (o : Op) : Bool := o.operands.toList.all (opndOk N)


theorem opOk_mem {N : Nat} {o : Op} (h : opOk N o = true) {x : Operand} (hx : x ∈ o.operands) : opndOk N x = true := by
  unfold opOk at h
  rw [List.all_eq_true] at h
  exact h x (by simpa using hx)

theorem wtx_inv {t : TypeId} {f : TX → Prop} (h : wtx P t f) : ∃ X, tx P t = some X ∧ f X := by
  unfold wtx at h
  split at h
  · rename_i X hX; exact ⟨X, hX, h⟩
  · exact h.elim
theorem wel_inv {T : TI} {f : TX → Prop} (h : wel P T f) : ∃ e X, T.kk = .slice e ∧ tx P e = some X ∧ f X := by
  unfold wel at h
  split at h
  · rename_i e he
    obtain ⟨X, h1, h2⟩ := wtx_inv h
    exact ⟨e, X, he, h1, h2⟩
  · exact h.elim

theorem parts_den {a : Act} {env : Env} (he : EnvOk M a.tmps env) (parts : Array (Nat × Operand)) (hok : ∀ p ∈ parts, opndOk a.tmps.size p.2 = true) :
    ∀ (j i : Nat) (v : Value) (k : Nat) (d : D), (parts.map fun p => (p.1, a.eval p.2))[j]? = some (i, v) → (parts.toList.map fun p => (p.1, ev env p.2))[j]? = some (k, d) → i = k ∧ Den M v d := by
  intro j i v k d h1 h2
  rw [Array.getElem?_map] at h1
  obtain ⟨p, hp, e1⟩ := Option.map_eq_some_iff.1 h1
  rw [List.getElem?_map, Array.getElem?_toList, hp] at h2
  simp only [Option.map_some, Option.some.injEq, Prod.mk.injEq] at h2 e1
  obtain ⟨rfl, rfl⟩ := e1
  obtain ⟨rfl, rfl⟩ := h2
  exact ⟨rfl, den_ev he (hok p (Array.mem_of_getElem? hp))⟩

theorem args_den {a : Act} {env : Env} (he : EnvOk M a.tmps env) (xs : Array Operand) (hok : ∀ x ∈ xs, opndOk a.tmps.size x = true) :
    ∀ (i : Nat) (d : D), (xs.toList.map (ev env))[i]? = some d → Den M ((xs.map a.eval).getD i undef) d := by
  intro i d hd
  rw [List.getElem?_map, Array.getElem?_toList] at hd
  obtain ⟨x, hx, rfl⟩ := Option.map_eq_some_iff.1 hd
  obtain ⟨h1, h2⟩ := Array.getElem?_eq_some_iff.1 hx
  have : (xs.map a.eval).getD i undef = a.eval x := by simp [Array.getD, h1, h2]
  rw [this]; exact den_ev he (hok x (Array.mem_of_getElem? hx))

theorem builtin_goes (h : Sim w0 M σ w) (lm : Bool) (b : Builtin) (ts : Array TypeId) (ty : TypeId) (cs : Array Bool) (vs : Array Value) (ds : List D) (hl : vs.size = ds.length) (hd : ∀ (i : Nat) (d : D), ds[i]? = some d → Den M (vs.getD i undef) d) {K : D → Store → Prop} (hk : hbuiltin P lm b ts ds σ K) :
    ∃ s : Sem Value, builtin b ts ty cs vs = (do pure (.value (← s))) ∧ Goes P s w0 M w K := by
  have two : ∀ x y : D, ds = [x, y] → ∃ u v, vs = #[u, v] ∧ Den M u x ∧ Den M v y := by
    rintro x y rfl
    have h0 := hd 0 x rfl
    have h1 := hd 1 y rfl
    simp at hl
    refine ⟨vs.getD 0 undef, vs.getD 1 undef, ?_, h0, h1⟩
    apply Array.ext' ; apply List.ext_getElem? ; intro i
    match i with
    | 0 => simp [Array.getD, show 0 < vs.size by omega]
    | 1 => simp [Array.getD, show 1 < vs.size by omega]
    | n + 2 => simp; omega
  have one : ∀ x : D, ds = [x] → ∃ u, vs = #[u] ∧ Den M u x := by
    rintro x rfl
    have h0 := hd 0 x rfl
    simp at hl
    refine ⟨vs.getD 0 undef, ?_, h0⟩
    apply Array.ext' ; apply List.ext_getElem? ; intro i
    match i with
    | 0 => simp [Array.getD, show 0 < vs.size by omega]
    | n + 1 => simp; omega
  unfold hbuiltin at hk
  split at hk
  · rename_i t d hts
    obtain ⟨X, hX, hk⟩ := wtx_inv hk
    obtain ⟨u, rfl, hu⟩ := one _ rfl
    obtain rfl : ts = #[t] := by apply Array.ext'; exact hts
    exact ⟨_, rfl, len_goes h (tx_some hX).1 ty hu hk⟩
  · rename_i t u a x hts
    obtain ⟨X, hX, hk⟩ := wtx_inv hk
    obtain ⟨e, E, hkk, hE, ⟨hsrc, hzf, hzs, s1, s2, s3⟩, hk⟩ := wel_inv hk
    obtain ⟨va, vx, rfl, h1, h2⟩ := two _ _ rfl
    obtain rfl : ts = #[t, u] := by apply Array.ext'; exact hts
    obtain ⟨U, hU, hsrc⟩ := wtx_inv hsrc
    obtain ⟨du, hdu, hku⟩ := kk_desc (tx_some hU).1
    obtain ⟨e1, z1, -, z2, -⟩ := tx_some hE
    rw [hku] at hsrc
    rcases hsrc with hsrc | hsrc
    · obtain ⟨e2, rfl⟩ := isSlice_desc hsrc
      exact ⟨_, rfl, append_goes h (tx_some hX).1 e1 hkk (.inl hdu) (by rw [← z1]; exact hzf) (by rw [← z2]; exact hzs) lm h1 h2 s1 s2 s3 ty hk⟩
    · obtain rfl := isStr_desc hsrc
      exact ⟨_, rfl, append_goes h (e2 := 0) (tx_some hX).1 e1 hkk (.inr hdu) (by rw [← z1]; exact hzf) (by rw [← z2]; exact hzs) lm h1 h2 s1 s2 s3 ty hk⟩
  · exact ⟨_, rfl, min_goes h _ _ _ _ hl hd hk⟩
  · exact ⟨_, rfl, max_goes h _ _ _ _ hl hd hk⟩
  · rename_i t d hts
    obtain ⟨X, hX, hk⟩ := wtx_inv hk
    obtain ⟨e, E, hkk, hE, hzf, hk⟩ := wel_inv hk
    obtain ⟨u, rfl, hu⟩ := one _ rfl
    obtain rfl : ts = #[t] := by apply Array.ext'; exact hts
    obtain ⟨e1, z1, -, z2, -⟩ := tx_some hE
    exact ⟨_, rfl, clear_goes h (tx_some hX).1 e1 hkk (by rw [← z1]; exact hzf) ty hu hk⟩
  · rename_i t u d x hts
    obtain ⟨X, hX, hk⟩ := wtx_inv hk
    obtain ⟨e, E, hkk, hE, ⟨s1, s2, s3⟩, hk⟩ := wel_inv hk
    obtain ⟨va, vx, rfl, h1, h2⟩ := two _ _ rfl
    obtain rfl : ts = #[t, u] := by apply Array.ext'; exact hts
    exact ⟨_, rfl, copy_goes h (tx_some hX).1 (tx_some hE).1 hkk ty h1 h2 s1 s2 s3 hk⟩
  · exact hk.elim

theorem optD {a : Act} {env : Env} (he : EnvOk M a.tmps env) (lo : Option Operand) (hok : ∀ x, lo = some x → opndOk a.tmps.size x = true) : (∀ d, lo.map (ev env) = some d → ∃ v, lo.map a.eval = some v ∧ Den M v d) ∧ (lo.map (ev env) = none → lo.map a.eval = none) := by
  cases lo with
  | none => simp
  | some x => exact ⟨fun d hd => by simp at hd; subst hd; exact ⟨_, rfl, den_ev he (hok x rfl)⟩, by simp⟩

theorem hop_sound (h : Sim w0 M σ w) {a : Act} {env : Env} (he : EnvOk M a.tmps env) (lm : Bool) (o : Oper) (hok : opOk a.tmps.size o.op = true) {K : D → Store → Prop} (hk : hop P lm o.op env σ K) (Q : Exit → Act → World → Prop) :
    o.wp P a w (After w0 M o a K) Q := by
  obtain ⟨dst, op, type, pos, after, guard⟩ := o
  simp only at hok hk
  have dv : ∀ x, x ∈ op.operands → Den M (a.eval x) (ev env x) := fun x hx => den_ev he (opOk_mem hok hx)
  cases op with
  | move x => exact wp_of_goes (s := pure (a.eval x)) rfl (Goes.pure h rfl (dv x (by simp [Op.operands])) hk)
  | assign x => exact wp_of_goes (s := pure (a.eval x)) rfl (Goes.pure h rfl (dv x (by simp [Op.operands])) hk)
  | pick c x y =>
    have dc := dv c (by simp [Op.operands])
    simp only [hop, hcond] at hk
    split at hk
    · rename_i t e
      rw [e] at dc
      have := den_lit_inv dc
      refine wp_of_goes (s := do pure (if ← asBool (a.eval c) then a.eval x else a.eval y)) (by simp [execOp]) ?_
      cases t
      · exact Goes.pure h (by simp [this, asBool]) (dv y (by simp [Op.operands])) (hk.2 rfl)
      · exact Goes.pure h (by simp [this, asBool]) (dv x (by simp [Op.operands])) (hk.1 rfl)
    · exact hk.elim
  | alloc e =>
    obtain ⟨X, hX, hz, hk⟩ := wtx_inv hk
    obtain ⟨e1, z1, -⟩ := tx_some hX
    split at hk
    · rename_i zs hzs
      exact wp_of_goes rfl (alloc_goes h e1 (by rw [← z1]; exact hz) hzs hk)
    · exact hk.elim
  | box e v => exact wp_of_goes rfl (box_goes h e (dv v (by simp [Op.operands])) hk.1 hk.2)
  | build t parts =>
    obtain ⟨X, hX, ⟨hz, hf⟩, hk⟩ := wtx_inv hk
    obtain ⟨e1, z1, z2, -⟩ := tx_some hX
    exact wp_of_goes rfl (build_goes h e1 (by rw [← z1]; exact hz) (by rw [← z2]; exact hf) _ _ (by simp) (parts_den he parts (fun p hp => opOk_mem hok (by simp [Op.operands]; exact ⟨p.1, by simpa using hp⟩))) hk)
  | buildSlice t n parts =>
    obtain ⟨X, hX, hk⟩ := wtx_inv hk
    obtain ⟨e, E, hkk, hE, hz, hk⟩ := wel_inv hk
    obtain ⟨e1, z1, -⟩ := tx_some hE
    exact wp_of_goes rfl (buildSlice_goes h (tx_some hX).1 e1 hkk (by rw [← z1]; exact hz) lm n _ _ (by simp) (parts_den he parts (fun p hp => opOk_mem hok (by simp [Op.operands]; exact ⟨p.1, by simpa using hp⟩))) hk)
  | load t x =>
    obtain ⟨X, hX, hk⟩ := wtx_inv hk
    exact wp_of_goes rfl (load_goes h (tx_some hX).1 (dv x (by simp [Op.operands])) hk)
  | store t x y =>
    obtain ⟨X, hX, hk⟩ := wtx_inv hk
    exact wp_of_unit rfl (store_goes h (tx_some hX).1 (dv x (by simp [Op.operands])) (dv y (by simp [Op.operands])) hk)
  | nilCheck x =>
    have dx := dv x (by simp [Op.operands])
    simp only [hop, hnil] at hk
    split at hk
    · rename_i ad e
      rw [e] at dx
      have := den_lit_inv dx
      refine wp_of_goes (s := pure (a.eval x)) (by simp [execOp, this]) (Goes.pure h rfl ?_ hk)
      rw [this]; exact .lit _
    · rename_i ds e
      rw [e] at dx
      obtain ⟨b, o', hv, -⟩ := holds_iptr h dx
      exact wp_of_goes (s := pure (a.eval x)) (by simp [execOp, hv]) (Goes.pure h rfl dx hk)
    · rename_i f p q e
      rw [e] at dx
      have := den_lit_inv dx
      refine wp_of_goes (s := pure (a.eval x)) (by simp [execOp, this]) (Goes.pure h rfl ?_ hk)
      rw [this]; exact .lit _
    · exact hk.elim
  | binOp op' t x y yt =>
    obtain ⟨X, hX, hk⟩ := wtx_inv hk
    exact wp_of_goes rfl (hbin_goes h op' (tx_some hX).1 x y (dv x (by simp [Op.operands])) (dv y (by simp [Op.operands])) hk)
  | unOp op' t x => exact wp_of_goes rfl (un_goes h op' (dv x (by simp [Op.operands])) hk)
  | convert s t x =>
    obtain ⟨S, hS, hk⟩ := wtx_inv hk
    obtain ⟨X, hX, ⟨s1, s2⟩, hk⟩ := wtx_inv hk
    exact wp_of_goes rfl (conv_goes h (tx_some hS).1 (tx_some hX).1 (dv x (by simp [Op.operands])) s1 hk s2)
  | makeInterface t x =>
    obtain ⟨X, hX, hk⟩ := wtx_inv hk
    exact wp_of_goes rfl (iface_goes h (tx_some hX).1 (dv x (by simp [Op.operands])) hk)
  | makeFunc fn first captured =>
    simp only [hop] at hk
    split at hk
    · rename_i f c e1 e2
      have q1 := litsOf_spec (M := M) _ ((first.map a.eval).toList) f e1 (by simp) (fun i d hd => by
        have := args_den he first (fun x hx => opOk_mem hok (by simp [Op.operands]; exact .inl hx)) i d hd
        simpa [List.getD_eq_getElem?_getD, Array.getD_eq_getD_getElem?] using this)
      have q2 := litsOf_spec (M := M) _ ((captured.map a.eval).toList) c e2 (by simp) (fun i d hd => by
        have := args_den he captured (fun x hx => opOk_mem hok (by simp [Op.operands]; exact .inr hx)) i d hd
        simpa [List.getD_eq_getElem?_getD, Array.getD_eq_getD_getElem?] using this)
      refine wp_of_goes (s := Instr.makeFunc fn (first.map a.eval) (captured.map a.eval)) rfl (Goes.pure h rfl ?_ hk)
      rw [← q1, ← q2]
      exact .lit _
    · exact hk.elim
  | makeMap t r =>
    cases r with
    | some _ => exact hk.elim
    | none => exact wp_of_goes (s := Instr.makeMap t none) rfl ⟨_, _, M, _, _, by simp [Instr.makeMap], MLe.refl M, h.alloc_map, .lit _, hk _ h.fresh⟩
  | makeSlice t l c =>
    obtain ⟨X, hX, hk⟩ := wtx_inv hk
    obtain ⟨e, E, hkk, hE, hz, hk⟩ := wel_inv hk
    obtain ⟨e1, z1, -⟩ := tx_some hE
    exact wp_of_goes rfl (make_goes h (tx_some hX).1 e1 hkk (by rw [← z1]; exact hz) (dv l (by simp [Op.operands])) (dv c (by simp [Op.operands])) hk)
  | slice t x lo hi mx =>
    cases mx with
    | some mx =>
      cases hi with
      | none => exact hk.elim
      | some hi =>
        obtain ⟨X, hX, hk⟩ := wtx_inv hk
        obtain ⟨l1, l2⟩ := optD he lo (fun y hy => opOk_mem hok (by subst hy; simp [Op.operands]))
        split at hk
        · rename_i e hkk
          obtain ⟨E, hE, hk⟩ := wtx_inv hk
          exact wp_of_goes rfl (slice3_goes h (tx_some hX).1 (tx_some hE).1 hkk (dv x (by simp [Op.operands])) l1 l2 (dv hi (by simp [Op.operands])) (dv mx (by simp [Op.operands])) hk)
        · exact hk.elim
    | none =>
      obtain ⟨X, hX, hk⟩ := wtx_inv hk
      obtain ⟨l1, l2⟩ := optD he lo (fun y hy => opOk_mem hok (by subst hy; simp [Op.operands]))
      obtain ⟨h1, h2⟩ := optD he hi (fun y hy => opOk_mem hok (by subst hy; simp [Op.operands]))
      split at hk
      · rename_i hkk
        obtain ⟨hs, hk⟩ := hk
        split at hs
        · rename_i s e
          exact wp_of_goes rfl (slice_str_goes h (tx_some hX).1 hkk (dv x (by simp [Op.operands])) l1 h1 l2 h2 e hk)
        · exact hs.elim
      · rename_i e hkk
        obtain ⟨E, hE, ⟨s1, s2⟩, hk⟩ := wtx_inv hk
        refine wp_of_goes rfl (slice_goes h (tx_some hX).1 (tx_some hE).1 hkk (dv x (by simp [Op.operands])) s1 l1 h1 l2 h2 (fun s e => ?_) (fun b o' n c e => ?_) hk)
        · rw [e] at s2; simp [capOk] at s2
        · rw [e] at s2; simpa [capOk] using s2
      · exact hk.elim
  | fieldAddr t x f =>
    obtain ⟨X, hX, hk⟩ := wtx_inv hk
    exact wp_of_goes rfl (fieldAddr_goes h (tx_some hX).1 (dv x (by simp [Op.operands])) f hk)
  | field t x f =>
    obtain ⟨X, hX, hk⟩ := wtx_inv hk
    exact wp_of_goes rfl (field_goes h (tx_some hX).1 (dv x (by simp [Op.operands])) f hk)
  | indexAddr t x i =>
    obtain ⟨X, hX, hk⟩ := wtx_inv hk
    obtain ⟨e, E, hkk, hE, s1, hk⟩ := wel_inv hk
    exact wp_of_goes rfl (indexAddr_goes h (tx_some hX).1 (tx_some hE).1 hkk (dv x (by simp [Op.operands])) (dv i (by simp [Op.operands])) s1 hk)
  | index t x i =>
    obtain ⟨X, hX, hkk, hk⟩ := wtx_inv hk
    have hs : X.T.kk = .str := by cases hq : X.T.kk <;> simp [hq, KK.isStr] at hkk; rfl
    exact wp_of_goes rfl (index_goes h (tx_some hX).1 hs (dv x (by simp [Op.operands])) (dv i (by simp [Op.operands])) hk)
  | lookup t x i ok =>
    obtain ⟨X, hX, hk⟩ := wtx_inv hk
    obtain ⟨E, hE, hz, hk⟩ := wtx_inv hk
    obtain ⟨e1, -, -, -, z1⟩ := tx_some hE
    exact wp_of_goes rfl (lookup_goes h (tx_some hX).1 e1 (by rw [← z1]; exact hz) (dv x (by simp [Op.operands])) (dv i (by simp [Op.operands])) ok hk)
  | mapUpdate t m k v =>
    obtain ⟨X, hX, hk⟩ := wtx_inv hk
    exact wp_of_unit rfl (mapUpdate_goes h (tx_some hX).1 (dv m (by simp [Op.operands])) (dv k (by simp [Op.operands])) (dv v (by simp [Op.operands])) hk)
  | extract x i => exact wp_of_goes rfl (extract_goes h (dv x (by simp [Op.operands])) i hk)
  | call c =>
    obtain ⟨callee, args, ts⟩ := c
    simp only [hop] at hk
    have ad := args_den he args (fun x hx => opOk_mem hok (by simp [Op.operands, Call.operands]; exact .inr hx))
    split at hk
    · rename_i b
      obtain ⟨s, hs, hg⟩ := builtin_goes h lm b ts type (args.map fun | .const _ => true | _ => false) (args.map a.eval) _ (by simp) ad hk
      refine wp_of_goes (s := s) ?_ hg
      simp only [execOp, resolve]
      rw [← hs]
      rfl
    · rename_i f
      have df := dv f (by simp [Op.operands, Call.operands])
      split at hk
      · rename_i g first caps e
        rw [e] at df
        have hf := den_lit_inv df
        have hlen : (first ++ args.map a.eval ++ caps).size = (first.toList.map D.lit ++ args.toList.map (ev env) ++ caps.toList.map D.lit).length := by simp
        have hden : ∀ (i : Nat) (d : D), (first.toList.map D.lit ++ args.toList.map (ev env) ++ caps.toList.map D.lit)[i]? = some d → Den M ((first ++ args.map a.eval ++ caps).getD i undef) d := by
          intro i d hd
          rw [List.getElem?_append] at hd
          simp only [Array.getD_eq_getD_getElem?]
          rw [Array.getElem?_append]
          have hl1 : (first.toList.map D.lit ++ args.toList.map (ev env)).length = (first ++ args.map a.eval).size := by simp
          rw [hl1] at hd
          split at hd
          · rename_i h1
            rw [if_pos h1, Array.getElem?_append]
            rw [List.getElem?_append] at hd
            have hl2 : (first.toList.map D.lit).length = first.size := by simp
            rw [hl2] at hd
            split at hd
            · rename_i h2
              rw [if_pos h2]
              rw [List.getElem?_map, Array.getElem?_toList] at hd
              obtain ⟨y, hy, rfl⟩ := Option.map_eq_some_iff.1 hd
              rw [hy]; exact .lit _
            · rename_i h2
              rw [if_neg h2]
              have := ad _ d hd
              simpa [Array.getD_eq_getD_getElem?] using this
          · rename_i h1
            rw [if_neg h1]
            rw [List.getElem?_map, Array.getElem?_toList] at hd
            obtain ⟨y, hy, rfl⟩ := Option.map_eq_some_iff.1 hd
            rw [hy]; exact .lit _
        have hrun : (execOp a.eval { dst, op := .call ⟨.value f, args, ts⟩, type, pos, after, guard }).run P w = (callFunc g (first ++ args.map a.eval ++ caps)).run P w := by
          simp [execOp, resolve, hf, Deferred.ofValue, invoke]
        unfold Oper.wp
        rw [hrun]
        split at hk
        · rename_i hent
          unfold entersB at hent
          split at hent
          · rename_i fn hfn
            simp at hent
            have : (callFunc g (first ++ args.map a.eval ++ caps)).run P w = .ok (.enter g (first ++ args.map a.eval ++ caps)) w := by
              obtain ⟨bd, hb⟩ := Option.isSome_iff_exists.1 hent.2
              simp [callFunc, hfn, hent.1, hb]
            rw [this]
            simp only [Oper.upon]
            refine (hk w0 M w _ h hlen hden).mono fun e w' ⟨v, M', d, σ', r1, r2, r3, r4, r5⟩ => ?_
            subst r1
            exact ⟨v, M', d, σ', rfl, r2, r3, r4, r5⟩
          · cases hent
        · obtain ⟨v, w', M', d, σ', r1, r2, r3, r4, r5⟩ := hk w0 M w _ h hlen hden
          rw [r1]
          exact ⟨v, M', d, σ', rfl, r2, r3, r4, r5⟩
      · exact hk.elim
    · exact hk.elim
  | _ => exact hk.elim
end Go.HL
