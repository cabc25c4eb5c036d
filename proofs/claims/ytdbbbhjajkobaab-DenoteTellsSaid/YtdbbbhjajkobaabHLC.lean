/- HL, part C: operations that write, build, and take parts. -/
import Derived.Test.YtdbbbhjajkobaabHLB
set_option linter.unusedVariables false
set_option linter.unusedSimpArgs false
namespace Go.HL
open Go.RowKit
variable {P : Program} {w0 w : World} {M : Mem} {σ : Store}

/-! store -/
def spl (ds : List D) (o : Nat) (cs : List D) : List D := ds.take o ++ cs ++ ds.drop (o + cs.length)
theorem spl_length (ds : List D) (o : Nat) (cs : List D) (h : o + cs.length ≤ ds.length) : (spl ds o cs).length = ds.length := by simp [spl]; omega
theorem setRow_cell (w : World) (g : Nat) (old cs : Array Value) (t : TypeId) (fr : Nat × Nat) (h : w.heap[g]? = some (.cells old t fr)) (o : Nat) : (w.setRow g cs).cell? ⟨g, o, none⟩ = cs[o]? :=
  cell_of_row _ g o cs t fr (setRow_heap w g old cs t fr h)
/-- Cells that are written. -/
theorem Sim.write (h : Sim w0 M σ w) {b : Nat} {ds : List D} (e : σ b = some (.cells ds)) (o : Nat) (vs : List Value) (cs : List D) (hl : vs.length = cs.length) (hfit : o + cs.length ≤ ds.length)
    (h1 : ∀ v ∈ vs, v.oneCell' = true) (hd : ∀ i x, cs[i]? = some x → Den M (vs.getD i undef) x) :
    ∃ w', (storeCells ⟨b, o, none⟩ vs).run P w = .ok () w' ∧ Sim w0 M (σ.set b (.cells (spl ds o cs))) w' := by
  obtain ⟨cur, t, hb, hs, hone, hden, hno⟩ := h.cells b ds e
  have hr := run_storeCells_at P b o t vs 0 cur w hb (by omega) h1
  refine ⟨_, hr, ?_⟩
  simp only [Nat.add_zero]
  have hlen : (cur.toList.take o ++ vs ++ cur.toList.drop (o + vs.length)).length = ds.length := by simp; omega
  have hget : ∀ i, (cur.toList.take o ++ vs ++ cur.toList.drop (o + vs.length)).toArray.getD i undef =
      if i < o then cur.getD i undef else if i < o + vs.length then vs.getD (i - o) undef else cur.getD i undef := by
    intro i
    simp only [Array.getD_eq_getD_getElem?, List.getElem?_toArray, List.getD_eq_getElem?_getD]
    congr 1
    rw [List.append_assoc, List.getElem?_append]
    have h2 : (cur.toList.take o).length = o := by simp; omega
    rw [h2]
    split
    · rename_i hi; rw [List.getElem?_take, if_pos hi, Array.getElem?_toList]
    · rename_i hi
      rw [List.getElem?_append]
      split
      · rename_i hi2; rw [if_pos (by omega)]
      · rename_i hi2; rw [if_neg (by omega), List.getElem?_drop, Array.getElem?_toList, show o + vs.length + (i - o - vs.length) = i from by omega]
  have hgetD : ∀ i, (spl ds o cs)[i]? = if i < o then ds[i]? else if i < o + cs.length then cs[i - o]? else ds[i]? := by
    intro i
    unfold spl
    rw [List.append_assoc, List.getElem?_append]
    have h2 : (ds.take o).length = o := by simp; omega
    rw [h2]
    split
    · rename_i hi; rw [List.getElem?_take, if_pos hi]
    · rename_i hi
      rw [List.getElem?_append]
      split
      · rename_i hi2; rw [if_pos (by omega)]
      · rename_i hi2; rw [if_neg (by omega), List.getElem?_drop, show o + cs.length + (i - o - cs.length) = i from by omega]
  refine h.turn b _ ⟨_, e⟩ (MLe.refl M) (fun _ _ _ => rfl) rfl rfl rfl (by simp) (fun k hk => setRow_other w b k _ hk) (fun o' v hm => by rw [hno] at hm; cases hm) ?_ (fun _ _ _ hh => by cases hh) (fun _ hh => by cases hh)
  intro ds' hds'
  injection hds' with hds'
  subst hds'
  refine ⟨_, t, setRow_heap w b cur _ t _ hb, by simp only [List.size_toArray]; rw [hlen, spl_length _ _ _ hfit], fun i hi => ?_, fun i x hx => ?_, hno⟩
  · rw [hget]
    have hi' : i < ds.length := by simp only [List.size_toArray] at hi; omega
    split
    · exact hone i (by omega)
    · split
      · rename_i h3 h4
        have : i - o < vs.length := by omega
        have hmem : vs.getD (i - o) undef ∈ vs := by simp [List.getD_eq_getElem?_getD, this]
        exact h1 _ hmem
      · exact hone i (by omega)
  · rw [hget]
    rw [hgetD] at hx
    rw [hl]
    split
    · rename_i h3; rw [if_pos h3] at hx; exact hden i x hx
    · rename_i h3
      rw [if_neg h3] at hx
      split
      · rename_i h4; rw [if_pos h4] at hx; exact hd _ x hx
      · rename_i h4; rw [if_neg h4] at hx; exact hden i x hx

def hstore (T : TI) (a x : D) (σ : Store) (K : Store → Prop) : Prop :=
  match a with
  | .lit (.pointer (some ⟨b, o, none⟩)) =>
    match σ b with
    | some (.cells ds) => (o + T.size ≤ ds.length ∧ fitD x = true ∧ (cellsD x).length = T.size) ∧ K (σ.set b (.cells (spl ds o (cellsD x))))
    | _ => False
  | _ => False

theorem den_list_cells {v : Value} {x : D} (hx : Den M v x) (hf : fitD x = true) : v.cells.toList.length = (cellsD x).length ∧ (∀ u ∈ v.cells.toList, u.oneCell' = true) ∧ ∀ i y, (cellsD x)[i]? = some y → Den M (v.cells.toList.getD i undef) y := by
  obtain ⟨h1, h2, h3⟩ := den_cells hx hf
  refine ⟨by simpa using h1, fun u hu => ?_, fun i y hy => ?_⟩
  · obtain ⟨i, hi, rfl⟩ := List.getElem_of_mem hu
    have hi' : i < v.cells.size := by simpa using hi
    have := h2 i hi'
    simpa [Array.getD, hi'] using this
  · have := h3 i y hy
    simpa [List.getD_eq_getElem?_getD, Array.getD_eq_getD_getElem?] using this

theorem store_goes (h : Sim w0 M σ w) {t : TypeId} {T : TI} (hT : ti P t = some T) {va vx : Value} {a x : D} (ha : Den M va a) (hx : Den M vx x) {K : Store → Prop} (hk : hstore T a x σ K) :
    ∃ w' σ', (Instr.storeAt t va vx).run P w = .ok () w' ∧ Sim w0 M σ' w' ∧ K σ' := by
  obtain ⟨i, d, hi, hd, e1, e2, -, -, -⟩ := ti_some hT
  unfold hstore at hk
  split at hk
  · rename_i b o
    cases ha
    split at hk
    · rename_i ds e
      obtain ⟨⟨h1, h2, h3⟩, hk⟩ := hk
      obtain ⟨c1, c2, c3⟩ := den_list_cells hx h2
      obtain ⟨w', hr, hs⟩ := h.write (P := P) e o vx.cells.toList (cellsD x) c1 (by omega) c2 c3
      refine ⟨w', _, ?_, hs, hk⟩
      have hsz : vx.cells.size = i.size := by simp at c1; omega
      simp [Instr.storeAt, Instr.sureAddr, storeVar, run_sizeOf hi, hsz, hr]
    · exact hk.elim
  · exact hk.elim

/-! fieldAddr, field -/
def hfieldAddr (T : TI) (d : D) (f : Nat) (K : D → Prop) : Prop :=
  match T.flds[f]? with
  | some (off, sz, _) => sz ≠ 0 ∧ match d with
    | .lit (.pointer (some ⟨b, o, none⟩)) => K (.ptr b (o + off))
    | .iptr ds => off ≤ ds.length ∧ K (.iptr (ds.drop off))
    | _ => False
  | none => False

theorem den_iptr_drop {b o : Nat} {ds : List D} (h : Den M (.pointer (some ⟨b, o, none⟩)) (.iptr ds)) (n : Nat) (hn : n ≤ ds.length) : Den M (.pointer (some ⟨b, o + n, none⟩)) (.iptr (ds.drop n)) := by
  cases h with
  | iptr _ _ _ cv hm hd =>
    refine .iptr b (o + n) _ (fun j => cv (n + j)) (fun j hj => ?_) (fun j d hj => ?_)
    · rw [List.length_drop] at hj
      have := hm (n + j) (by omega)
      rwa [← Nat.add_assoc] at this
    · rw [List.getElem?_drop] at hj
      exact hd _ _ hj

theorem flds_some {T : TI} {t : TypeId} (hT : ti P t = some T) {f off sz : Nat} {ag : Bool} (e : T.flds[f]? = some (off, sz, ag)) (hz : sz ≠ 0) :
    ∃ fs fd i dd, P.underlying t = some (.struct fs) ∧ fs[f]? = some fd ∧ fd.offset = off ∧ P.info? fd.type = some i ∧ i.size = sz ∧ P.underlying fd.type = some dd ∧ ag = (kkOf dd).agg := by
  obtain ⟨i, d, hi, hd, -, -, -, -, e5⟩ := ti_some hT
  rw [e5] at e
  cases d <;> simp only [fldsOf, List.getElem?_nil] at e <;> try (cases e; done)
  rename_i fs
  rw [List.getElem?_map] at e
  obtain ⟨fd, hf, he⟩ := Option.map_eq_some_iff.1 e
  rw [Array.getElem?_toList] at hf
  simp only [Prod.mk.injEq] at he
  obtain ⟨a1, a2, a3⟩ := he
  cases hw : P.underlying fd.type with
  | none => rw [hw] at a2; simp at a2; exact absurd a2.symm hz
  | some dd =>
    cases hq : P.info? fd.type with
    | none => rw [hw, hq] at a2; simp at a2; exact absurd a2.symm hz
    | some q => exact ⟨fs, fd, q, dd, hd, hf, a1, hq, by rw [hw, hq] at a2; simpa using a2, hw, by rw [← a3]; simp [aggD, hw]⟩

theorem fieldAddr_goes (h : Sim w0 M σ w) {t : TypeId} {T : TI} (hT : ti P t = some T) {v : Value} {d : D} (hv : Den M v d) (f : Nat) {K : D → Store → Prop} (hk : hfieldAddr T d f (K · σ)) : Goes P (Instr.fieldAt t v f) w0 M w K := by
  unfold hfieldAddr at hk
  split at hk
  · rename_i off sz ag e
    obtain ⟨hz, hk⟩ := hk
    obtain ⟨fs, fd, i, dd, hu, hf, rfl, hi, rfl, -, -⟩ := flds_some hT e hz
    split at hk
    · rename_i b o
      cases hv
      refine Goes.pure h ?_ (.lit _) hk
      simp [Instr.fieldAt, run_underlying hu, hf, Instr.sureAddr, fieldPlace, run_sizeOf hi, hz, addr_add]
    · rename_i ds
      obtain ⟨b, o, rfl, -⟩ := holds_iptr h hv
      refine Goes.pure h ?_ (den_iptr_drop hv fd.offset hk.1) hk.2
      simp [Instr.fieldAt, run_underlying hu, hf, Instr.sureAddr, fieldPlace, run_sizeOf hi, hz, addr_add]
    · exact hk.elim
  · exact hk.elim

def hfield (T : TI) (d : D) (f : Nat) (K : D → Prop) : Prop :=
  match T.flds[f]?, d with
  | some (off, sz, ag), .agg ds => (sz ≠ 0 ∧ off + sz ≤ ds.length ∧ (ag = true ∨ sz = 1)) ∧ K (valD ag ((ds.drop off).take sz))
  | _, _ => False

/-- A part of a struct's value. -/
theorem part_goes (h : Sim w0 M σ w) {t : TypeId} {i : TypeInfo} (hi : P.info? t = some i) {dd : TypeDesc} (hu : P.underlying t = some dd) {vs : Array Value} {ds : List D} (hv : Den M (.agg vs) (.agg ds)) (off : Nat)
    (hl : off + i.size ≤ ds.length) (h1 : (kkOf dd).agg = true ∨ i.size = 1) {K : D → Store → Prop} (hk : K (valD (kkOf dd).agg ((ds.drop off).take i.size)) σ) : Goes P (part t vs off) w0 M w K := by
  cases hv with
  | agg _ _ hs hone hd =>
    by_cases ha : (kkOf dd).agg = true
    · have e : valD (kkOf dd).agg ((ds.drop off).take i.size) = .agg ((ds.drop off).take i.size) := by simp [valD, ha]
      rw [e] at hk
      refine Goes.pure h (v := .agg (vs.extract off (off + i.size))) ?_ (.agg _ _ (by simp; omega) (fun j hj => ?_) (fun j x hx => ?_)) hk
      · simp [part, run_isAgg hu, ha, run_sizeOf hi]
      · simp at hj
        have := hone (off + j) (by omega)
        simp [Array.getD, show j < min (off + i.size) vs.size - off by omega]
        simpa [Array.getD, show off + j < vs.size by omega] using this
      · rw [List.getElem?_take] at hx
        split at hx
        · rw [List.getElem?_drop] at hx
          have := hd _ _ hx
          have hb := (List.getElem?_eq_some_iff.1 hx).1
          simp [Array.getD, show j < min (off + i.size) vs.size - off by omega]
          simpa [Array.getD, show off + j < vs.size by omega] using this
        · cases hx
    · have hf : (kkOf dd).agg = false := by simpa using ha
      have hsz : i.size = 1 := by
        rcases h1 with h1 | h1
        · exact absurd h1 ha
        · exact h1
      rw [hsz] at hl hk
      have hlt : off < ds.length := by omega
      have e : valD (kkOf dd).agg ((ds.drop off).take 1) = ds[off] := by
        rw [hf]; simp only [valD, Bool.false_eq_true, if_false]
        rw [List.drop_eq_getElem_cons hlt]; rfl
      rw [e] at hk
      have hlt' : off < vs.size := by omega
      refine Goes.pure h (v := vs.getD off undef) ?_ (hd off _ (List.getElem?_eq_getElem hlt)) hk
      simp [part, run_isAgg hu, hf, hlt', Array.getD]

theorem field_goes (h : Sim w0 M σ w) {t : TypeId} {T : TI} (hT : ti P t = some T) {v : Value} {d : D} (hv : Den M v d) (f : Nat) {K : D → Store → Prop} (hk : hfield T d f (K · σ)) : Goes P (Instr.field t v f) w0 M w K := by
  unfold hfield at hk
  split at hk
  · rename_i off sz ag ds e
    obtain ⟨⟨hz, hl, h1⟩, hk⟩ := hk
    obtain ⟨fs, fd, i, dd, hu, hf, rfl, hi, rfl, hu2, rfl⟩ := flds_some hT e hz
    cases hv with
    | agg vs _ hs hone hd =>
      obtain ⟨v', w', M', d', σ', r⟩ := part_goes h hi hu2 (.agg vs ds hs hone hd) fd.offset hl h1 hk
      exact ⟨v', w', M', d', σ', by simp [Instr.field, run_underlying hu, hf, asAgg]; exact r.1, r.2⟩
  · exact hk.elim
end Go.HL
