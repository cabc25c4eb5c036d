/- HL, part A: Go memory told plainly: the data 'D', what a machine's value is told as ('Den'), and the relation between a world and a store ('Sim'). No program in sight. -/
import Derived.WalkKit
import Derived.Orders
set_option linter.unusedVariables false
set_option linter.unusedSimpArgs false
namespace Go.HL
open Go.RowKit

/-- May a slice be appended to: no word (ro), it is nil (nil), full (full), it owns the rest of its block (own). -/
inductive Tok where
  | ro
  | nil
  | full
  | own (b c k : Nat)

/-- A value told plainly. -/
inductive D where
  | any
  | lit (v : Value)
  | list (es : List (List D)) (tok : Tok)
  | agg (ds : List D)
  | tup (ds : List D)
  | iptr (ds : List D)

abbrev D.int (k : IntKind) (n : Int) : D := .lit (.int k n)
abbrev D.bool (b : Bool) : D := .lit (.bool b)
abbrev D.str (s : ByteArray) : D := .lit (.string s)
abbrev D.ptr (b o : Nat) : D := .lit (.pointer (some ⟨b, o, none⟩))

/-- Cells that stay as they are. -/
abbrev Mem := Nat → Nat → Option Value
def MLe (M M' : Mem) : Prop := ∀ b o v, M b o = some v → M' b o = some v
theorem MLe.refl (M : Mem) : MLe M M := fun _ _ _ h => h
theorem MLe.trans {M M' M'' : Mem} (h : MLe M M') (h' : MLe M' M'') : MLe M M'' := fun b o v e => h' b o v (h b o v e)

def TokOk (tok : Tok) (a : Option Addr) (n c k : Nat) : Prop :=
  match tok with
  | .ro => True
  | .nil => a = none ∧ n = 0 ∧ c = 0
  | .full => c = n
  | .own b c' k' => a = some ⟨b, 0, none⟩ ∧ c' = c ∧ k' = k

inductive Den (M : Mem) : Value → D → Prop
  | any (v : Value) : Den M v .any
  | lit (v : Value) : Den M v (.lit v)
  | agg (vs : Array Value) (ds : List D) (h : vs.size = ds.length) (h1 : ∀ i, i < vs.size → (vs.getD i undef).oneCell' = true) (h2 : ∀ (i : Nat) (d : D), ds[i]? = some d → Den M (vs.getD i undef) d) : Den M (.agg vs) (.agg ds)
  | tup (vs : Array Value) (ds : List D) (h : vs.size = ds.length) (h2 : ∀ (i : Nat) (d : D), ds[i]? = some d → Den M (vs.getD i undef) d) : Den M (.tuple vs) (.tup ds)
  | list (a : Option Addr) (n c k b o : Nat) (es : List (List D)) (tok : Tok) (cv : Nat → Nat → Value)
      (hn : n = es.length) (hc : n ≤ c) (hc2 : c ≤ 9223372036854775807) (ha : 0 < n → a = some ⟨b, o, none⟩) (hk : ∀ (i : Nat) (e : List D), es[i]? = some e → e.length = k)
      (hm : ∀ i j : Nat, i < n → j < k → M b (o + i * k + j) = some (cv i j))
      (hd : ∀ (i : Nat) (e : List D) (j : Nat) (d : D), es[i]? = some e → e[j]? = some d → Den M (cv i j) d) (ht : TokOk tok a n c k) : Den M (.slice a n c) (.list es tok)
  | iptr (b o : Nat) (ds : List D) (cv : Nat → Value) (hm : ∀ j, j < ds.length → M b (o + j) = some (cv j)) (hd : ∀ (j : Nat) (d : D), ds[j]? = some d → Den M (cv j) d) : Den M (.pointer (some ⟨b, o, none⟩)) (.iptr ds)

theorem Den.mono {M M' : Mem} (hM : MLe M M') {v : Value} {d : D} (h : Den M v d) : Den M' v d := by
  induction h with
  | any v => exact .any v
  | lit v => exact .lit v
  | agg vs ds h h1 h2 ih => exact .agg vs ds h h1 ih
  | tup vs ds h h2 ih => exact .tup vs ds h ih
  | list a n c k b o es tok cv hn hc hc2 ha hk hm hd ht ih => exact .list a n c k b o es tok cv hn hc hc2 ha hk (fun i j hi hj => hM _ _ _ (hm i j hi hj)) ih ht
  | iptr b o ds cv hm hd ih => exact .iptr b o ds cv (fun j hj => hM _ _ _ (hm j hj)) ih

/-- Blocks that may be written, as far as they are known. -/
inductive HObj where
  | cells (ds : List D)
  | spare (n c k : Nat)
  | hmap (es : List (ByteArray × Value))
abbrev Store := Nat → Option HObj
def Store.set (σ : Store) (b : Nat) (o : HObj) : Store := fun x => if x = b then some o else σ x
theorem Store.set_same (σ : Store) (b : Nat) (o : HObj) : (σ.set b o) b = some o := by simp [Store.set]
theorem Store.set_ne (σ : Store) (b x : Nat) (o : HObj) (h : x ≠ b) : (σ.set b o) x = σ x := by simp [Store.set, h]
def SLe (σ σ' : Store) : Prop := ∀ b o, σ b = some o → σ' b = some o
theorem SLe.refl (σ : Store) : SLe σ σ := fun _ _ h => h
theorem SLe.trans {a b c : Store} (h : SLe a b) (h' : SLe b c) : SLe a c := fun x o e => h' x o (h x o e)

structure Sim (w0 : World) (M : Mem) (σ : Store) (w : World) : Prop where
  base : Below w0.heap.size w0 w
  low : ∀ b o, σ b = some o → w0.heap.size ≤ b
  mem : ∀ b o v, M b o = some v → w.cell? ⟨b, o, none⟩ = some v ∧ v.oneCell' = true
  cells : ∀ b ds, σ b = some (.cells ds) → ∃ cs t, w.heap[b]? = some (.cells cs t (0, 0)) ∧ cs.size = ds.length ∧
    (∀ i, i < cs.size → (cs.getD i undef).oneCell' = true) ∧ (∀ i d, ds[i]? = some d → Den M (cs.getD i undef) d) ∧ ∀ o, M b o = none
  spare : ∀ b n c k, σ b = some (.spare n c k) → ∃ cs t, w.heap[b]? = some (.cells cs t (0, 0)) ∧ cs.size = c * k ∧ n ≤ c ∧ ∀ o, n * k ≤ o → M b o = none
  maps : ∀ b es, σ b = some (.hmap es) → ∃ (ents : Array MapEntry) (clock : Nat), w.heap[b]? = some (.map ents clock) ∧ ents.toList.map (fun e => (e.key, e.val)) = es.map (fun p => (Value.string p.1, p.2))

theorem Sim.drop {w0 : World} {M : Mem} {σ σ' : Store} {w : World} (h : Sim w0 M σ' w) (hs : SLe σ σ') : Sim w0 M σ w :=
  ⟨h.base, fun b o e => h.low b o (hs b o e), h.mem, fun b ds e => h.cells b ds (hs _ _ e), fun b n c k e => h.spare b n c k (hs _ _ e), fun b es e => h.maps b es (hs _ _ e)⟩

theorem Sim.lt {w0 : World} {M : Mem} {σ : Store} {w : World} (h : Sim w0 M σ w) {b : Nat} {o : HObj} (e : σ b = some o) : b < w.heap.size := by
  cases o with
  | cells ds => obtain ⟨cs, t, hb, _⟩ := h.cells b ds e; exact (Array.getElem?_eq_some_iff.1 hb).1
  | spare n c k => obtain ⟨cs, t, hb, _⟩ := h.spare b n c k e; exact (Array.getElem?_eq_some_iff.1 hb).1
  | hmap es => obtain ⟨cs, t, hb, _⟩ := h.maps b es e; exact (Array.getElem?_eq_some_iff.1 hb).1

theorem Sim.fresh {w0 : World} {M : Mem} {σ : Store} {w : World} (h : Sim w0 M σ w) : σ w.heap.size = none := by
  cases e : σ w.heap.size with
  | none => rfl
  | some o => exact absurd (h.lt e) (by omega)

theorem Sim.freshM {w0 : World} {M : Mem} {σ : Store} {w : World} (h : Sim w0 M σ w) (b : Nat) (hb : w.heap.size ≤ b) (o : Nat) : M b o = none := by
  cases e : M b o with
  | none => rfl
  | some v =>
    have := World.block_lt_of_cell? w _ (h.mem b o v e).1
    simp at this
    omega

/-- The world goes on by draws alone. -/
theorem Sim.drew {w0 : World} {M : Mem} {σ : Store} {w : World} (h : Sim w0 M σ w) : Sim w0 M σ w.drew :=
  ⟨h.base.drew, h.low, h.mem, h.cells, h.spare, h.maps⟩
theorem Sim.drawn {w0 : World} {M : Mem} {σ : Store} {w : World} (h : Sim w0 M σ w) (n : Nat) : Sim w0 M σ { w with drawn := n } :=
  ⟨⟨h.base.os, h.base.tape, h.base.output, h.base.size, h.base.block⟩, h.low, h.mem, h.cells, h.spare, h.maps⟩

theorem heap_push_lt (w : World) (o : Obj) (i : Nat) (h : i < w.heap.size) : (w.alloc o).heap[i]? = w.heap[i]? := by
  exact heap_alloc_old w o h
theorem heap_push_at (w : World) (o : Obj) : (w.alloc o).heap[w.heap.size]? = some o := heap_alloc_new w o

/-- A new block of cells. -/
theorem Sim.alloc_garbage {w0 : World} {M : Mem} {σ : Store} {w : World} (h : Sim w0 M σ w) (o : Obj) : Sim w0 M σ (w.alloc o) := by
  have old : ∀ b x, w.heap[b]? = some x → (w.alloc o).heap[b]? = some x := fun b x e => by
    rw [heap_push_lt _ _ _ (Array.getElem?_eq_some_iff.1 e).1, e]
  refine ⟨h.base.alloc h.base.size o, h.low, fun b oo v e => ⟨?_, (h.mem b oo v e).2⟩, fun b ds e => ?_, fun b n c k e => ?_, fun b es e => ?_⟩
  · have h1 := (h.mem b oo v e).1
    rw [World.cell?_alloc_lt _ _ _ (World.block_lt_of_cell? w _ h1)]
    exact h1
  · obtain ⟨cs, t, hb, r⟩ := h.cells b ds e; exact ⟨cs, t, old _ _ hb, r⟩
  · obtain ⟨cs, t, hb, r⟩ := h.spare b n c k e; exact ⟨cs, t, old _ _ hb, r⟩
  · obtain ⟨cs, t, hb, r⟩ := h.maps b es e; exact ⟨cs, t, old _ _ hb, r⟩

theorem Sim.alloc_cells {w0 : World} {M : Mem} {σ : Store} {w : World} (h : Sim w0 M σ w) (cs : Array Value) (t : TypeId) (ds : List D) (hs : cs.size = ds.length)
    (h1 : ∀ i, i < cs.size → (cs.getD i undef).oneCell' = true) (hd : ∀ i d, ds[i]? = some d → Den M (cs.getD i undef) d) :
    Sim w0 M (σ.set w.heap.size (.cells ds)) (w.alloc (.cells cs t)) := by
  have g := h.alloc_garbage (.cells cs t)
  have hn : ∀ b o, (σ.set w.heap.size (.cells ds)) b = some o → b ≠ w.heap.size → σ b = some o := fun b o e hne => by rwa [Store.set_ne _ _ _ _ hne] at e
  refine ⟨g.base, fun b o e => ?_, g.mem, fun b ds' e => ?_, fun b n c k e => ?_, fun b es e => ?_⟩
  · by_cases hb : b = w.heap.size
    · subst hb; exact h.base.size
    · exact h.low b o (hn b o e hb)
  · by_cases hb : b = w.heap.size
    · subst hb
      rw [Store.set_same] at e
      injection e with e
      injection e with e
      subst e
      exact ⟨cs, t, heap_push_at _ _, hs, h1, hd, fun o => h.freshM _ (Nat.le_refl _) o⟩
    · exact g.cells b ds' (hn b _ e hb)
  · by_cases hb : b = w.heap.size
    · subst hb; rw [Store.set_same] at e; cases e
    · exact g.spare b n c k (hn b _ e hb)
  · by_cases hb : b = w.heap.size
    · subst hb; rw [Store.set_same] at e; cases e
    · exact g.maps b es (hn b _ e hb)

theorem Sim.alloc_map {w0 : World} {M : Mem} {σ : Store} {w : World} (h : Sim w0 M σ w) : Sim w0 M (σ.set w.heap.size (.hmap [])) (w.alloc (.map #[] 0)) := by
  have g := h.alloc_garbage (.map #[] 0)
  have hn : ∀ b o, (σ.set w.heap.size (.hmap [])) b = some o → b ≠ w.heap.size → σ b = some o := fun b o e hne => by rwa [Store.set_ne _ _ _ _ hne] at e
  refine ⟨g.base, fun b o e => ?_, g.mem, fun b ds' e => ?_, fun b n c k e => ?_, fun b es e => ?_⟩
  · by_cases hb : b = w.heap.size
    · subst hb; exact h.base.size
    · exact h.low b o (hn b o e hb)
  · by_cases hb : b = w.heap.size
    · subst hb; rw [Store.set_same] at e; cases e
    · exact g.cells b ds' (hn b _ e hb)
  · by_cases hb : b = w.heap.size
    · subst hb; rw [Store.set_same] at e; cases e
    · exact g.spare b n c k (hn b _ e hb)
  · by_cases hb : b = w.heap.size
    · subst hb
      rw [Store.set_same] at e
      injection e with e
      injection e with e
      subst e
      exact ⟨#[], 0, heap_push_at _ _, rfl⟩
    · exact g.maps b es (hn b _ e hb)

/-- What changes one block that may be written: the rest of the relation. -/
theorem Sim.turn {w0 w w' : World} {M M' : Mem} {σ : Store} (h : Sim w0 M σ w) (g : Nat) (o' : HObj) (hg : ∃ o, σ g = some o) (hM : MLe M M')
    (hMg : ∀ b o, b ≠ g → M' b o = M b o)
    (hos : w'.os = w.os) (htape : w'.tape = w.tape) (hout : w'.output = w.output) (hsz : w'.heap.size = w.heap.size) (hblk : ∀ b, b ≠ g → w'.heap[b]? = w.heap[b]?)
    (hmem : ∀ o v, M' g o = some v → w'.cell? ⟨g, o, none⟩ = some v ∧ v.oneCell' = true)
    (hcells : ∀ ds, o' = .cells ds → ∃ cs t, w'.heap[g]? = some (.cells cs t (0, 0)) ∧ cs.size = ds.length ∧ (∀ i, i < cs.size → (cs.getD i undef).oneCell' = true) ∧ (∀ i d, ds[i]? = some d → Den M' (cs.getD i undef) d) ∧ ∀ o, M' g o = none)
    (hspare : ∀ n c k, o' = .spare n c k → ∃ cs t, w'.heap[g]? = some (.cells cs t (0, 0)) ∧ cs.size = c * k ∧ n ≤ c ∧ ∀ o, n * k ≤ o → M' g o = none)
    (hmaps : ∀ es, o' = .hmap es → ∃ (ents : Array MapEntry) (clock : Nat), w'.heap[g]? = some (.map ents clock) ∧ ents.toList.map (fun e => (e.key, e.val)) = es.map (fun p => (Value.string p.1, p.2))) :
    Sim w0 M' (σ.set g o') w' := by
  obtain ⟨o0, hg0⟩ := hg
  have hlow := h.low g o0 hg0
  have hn : ∀ b o, (σ.set g o') b = some o → b ≠ g → σ b = some o := fun b o e hne => by rwa [Store.set_ne _ _ _ _ hne] at e
  refine ⟨?_, fun b o e => ?_, fun b o v e => ?_, fun b ds' e => ?_, fun b n c k e => ?_, fun b es e => ?_⟩
  · exact ⟨hos.trans h.base.os, htape.trans h.base.tape, hout.trans h.base.output, by rw [hsz]; exact h.base.size, fun k hk => (hblk k (by omega)).trans (h.base.block k hk)⟩
  · by_cases hb : b = g
    · subst hb; exact hlow
    · exact h.low b o (hn b o e hb)
  · by_cases hb : b = g
    · subst hb; exact hmem o v e
    · rw [hMg b o hb] at e
      obtain ⟨h1, h2⟩ := h.mem b o v e
      refine ⟨?_, h2⟩
      rw [World.cell?_of_block (w := w) (hblk b hb)]
      exact h1
  · by_cases hb : b = g
    · subst hb
      rw [Store.set_same] at e
      injection e with e
      exact hcells ds' e
    · obtain ⟨cs, t, hb1, h2, h3, h4, h5⟩ := h.cells b ds' (hn b _ e hb)
      exact ⟨cs, t, by rw [hblk b hb]; exact hb1, h2, h3, fun i d hi => (h4 i d hi).mono hM, fun o => by rw [hMg b o hb]; exact h5 o⟩
  · by_cases hb : b = g
    · subst hb
      rw [Store.set_same] at e
      injection e with e
      exact hspare n c k e
    · obtain ⟨cs, t, hb1, h2, h3, h4⟩ := h.spare b n c k (hn b _ e hb)
      exact ⟨cs, t, by rw [hblk b hb]; exact hb1, h2, h3, fun o ho => by rw [hMg b o hb]; exact h4 o ho⟩
  · by_cases hb : b = g
    · subst hb
      rw [Store.set_same] at e
      injection e with e
      exact hmaps es e
    · obtain ⟨cs, t, hb1, h2⟩ := h.maps b es (hn b _ e hb)
      exact ⟨cs, t, by rw [hblk b hb]; exact hb1, h2⟩

end Go.HL
