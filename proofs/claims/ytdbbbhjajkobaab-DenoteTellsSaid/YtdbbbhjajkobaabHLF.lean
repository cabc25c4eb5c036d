/- HL, part F: building, appending, and the rest. -/
import Derived.Test.YtdbbbhjajkobaabHLE
set_option linter.unusedVariables false
set_option linter.unusedSimpArgs false
namespace Go.HL
open Go.RowKit
variable {P : Program} {w0 w : World} {M : Mem} {σ : Store}

/-- An array of cells, told one by one. -/
structure Pts (M : Mem) (cs : Array Value) (ds : List D) : Prop where
  size : cs.size = ds.length
  one : ∀ i, i < cs.size → (cs.getD i undef).oneCell' = true
  den : ∀ i d, ds[i]? = some d → Den M (cs.getD i undef) d
theorem Pts.mono {M M' : Mem} (hM : MLe M M') {cs : Array Value} {ds : List D} (h : Pts M cs ds) : Pts M' cs ds := ⟨h.size, h.one, fun i d hd => (h.den i d hd).mono hM⟩
theorem den_pts {v : Value} {d : D} (h : Den M v d) (hd : fitD d = true) : Pts M v.cells (cellsD d) := by
  obtain ⟨h1, h2, h3⟩ := den_cells h hd; exact ⟨h1, h2, h3⟩

theorem getD_foldl_set (vs : List (Value × Nat)) (off : Nat) (n0 : Nat) (xs : List Value) (hv : vs = xs.zipIdx n0) : ∀ (cs : Array Value) (p : Nat), (vs.foldl (fun cs (c, j) => cs.setIfInBounds (off + j) c) cs).size = cs.size ∧
    ((vs.foldl (fun cs (c, j) => cs.setIfInBounds (off + j) c) cs).getD p undef = if off + n0 ≤ p ∧ p < off + n0 + xs.length ∧ p < cs.size then xs.getD (p - (off + n0)) undef else cs.getD p undef) := by
  induction xs generalizing vs n0 with
  | nil => intro cs p; subst hv; simp; intro h1 h2; omega
  | cons x xs ih =>
    intro cs p
    subst hv
    simp only [List.zipIdx_cons, List.foldl_cons]
    obtain ⟨i1, i2⟩ := ih (xs.zipIdx (n0 + 1)) (n0 + 1) rfl (cs.setIfInBounds (off + n0) x) p
    refine ⟨by rw [i1]; simp, ?_⟩
    rw [i2]
    simp only [Array.size_setIfInBounds, List.length_cons]
    by_cases h1 : off + (n0 + 1) ≤ p ∧ p < off + (n0 + 1) + xs.length ∧ p < cs.size
    · rw [if_pos h1, if_pos (by omega)]
      rw [show p - (off + n0) = (p - (off + (n0 + 1))) + 1 from by omega]
      simp
    · rw [if_neg h1]
      by_cases h2 : p = off + n0
      · subst h2
        by_cases h3 : off + n0 < cs.size
        · rw [if_pos (by omega)]
          simp [Array.getD, h3]
        · rw [if_neg (by omega)]
          simp [Array.getD, h3]
      · rw [if_neg (by omega)]
        simp only [Array.getD_eq_getD_getElem?]
        rw [Array.getElem?_setIfInBounds_ne (by omega)]

theorem Pts.put {cs : Array Value} {ds : List D} (h : Pts M cs ds) {vs : Array Value} {xs : List D} (hv : Pts M vs xs) (off : Nat) (hf : off + xs.length ≤ ds.length) :
    Pts M (vs.zipIdx.foldl (fun cs (c, j) => cs.setIfInBounds (off + j) c) cs) (spl ds off xs) := by
  have key := getD_foldl_set (vs.zipIdx).toList off 0 vs.toList (by simp) cs
  rw [← Array.foldl_toList]
  have hs := h.size
  have hvs := hv.size
  have hgetD : ∀ i, (spl ds off xs)[i]? = if i < off then ds[i]? else if i < off + xs.length then xs[i - off]? else ds[i]? := by
    intro i
    unfold spl
    rw [List.append_assoc, List.getElem?_append]
    have h2 : (ds.take off).length = off := by simp; omega
    rw [h2]
    split
    · rename_i hi; rw [List.getElem?_take, if_pos hi]
    · rename_i hi
      rw [List.getElem?_append]
      split
      · rename_i hi2; rw [if_pos (by omega)]
      · rename_i hi2; rw [if_neg (by omega), List.getElem?_drop, show off + xs.length + (i - off - xs.length) = i from by omega]
  have hval : ∀ p, p < cs.size → (vs.zipIdx.toList.foldl (fun cs (c, j) => cs.setIfInBounds (off + j) c) cs).getD p undef = if off ≤ p ∧ p < off + xs.length then vs.getD (p - off) undef else cs.getD p undef := by
    intro p hp
    rw [(key p).2]
    simp only [Nat.add_zero, Array.length_toList]
    by_cases hc : off ≤ p ∧ p < off + xs.length
    · rw [if_pos (by omega), if_pos hc]
      simp [List.getD_eq_getElem?_getD, Array.getD_eq_getD_getElem?]
    · rw [if_neg (by omega), if_neg hc]
  refine ⟨by rw [(key 0).1, spl_length _ _ _ hf, hs], fun i hi => ?_, fun i d hd => ?_⟩
  · rw [(key 0).1] at hi
    rw [hval i hi]
    by_cases hc : off ≤ i ∧ i < off + xs.length
    · rw [if_pos hc]; exact hv.one _ (by omega)
    · rw [if_neg hc]; exact h.one i hi
  · have hlt : i < ds.length := by have := (List.getElem?_eq_some_iff.1 hd).1; rwa [spl_length _ _ _ hf] at this
    rw [hval i (by omega)]
    rw [hgetD] at hd
    by_cases hc : off ≤ i ∧ i < off + xs.length
    · rw [if_neg (by omega), if_pos hc.2] at hd; rw [if_pos hc]; exact hv.den _ d hd
    · rw [if_neg hc]
      by_cases hc2 : i < off
      · rw [if_pos hc2] at hd; exact h.den i d hd
      · rw [if_neg hc2, if_neg (by omega)] at hd; exact h.den i d hd

def fillD (place : Nat → Option (Nat × Nat)) : List D → List (Nat × D) → Option (List D)
  | ds, [] => some ds
  | ds, (i, d) :: rest =>
    match place i with
    | none => none
    | some (off, size) => if fitD d = true ∧ (cellsD d).length = size ∧ off + size ≤ ds.length then fillD place (spl ds off (cellsD d)) rest else none

theorem fill_pts (place : Nat → Option (Nat × Nat)) : ∀ (parts : List (Nat × Value)) (pd : List (Nat × D)) (cs : Array Value) (ds ds' : List D), Pts M cs ds → parts.length = pd.length →
    (∀ (j i : Nat) (v : Value) (k : Nat) (d : D), parts[j]? = some (i, v) → pd[j]? = some (k, d) → i = k ∧ Den M v d) → fillD place ds pd = some ds' → ∃ cs', Instr.fill place cs parts = some cs' ∧ Pts M cs' ds' := by
  intro parts
  induction parts with
  | nil =>
    intro pd cs ds ds' h hl _ he
    cases pd with
    | nil => simp [fillD] at he; subst he; exact ⟨cs, rfl, h⟩
    | cons => simp at hl
  | cons p parts ih =>
    intro pd cs ds ds' h hl hp he
    obtain ⟨i, v⟩ := p
    cases pd with
    | nil => simp at hl
    | cons q pd =>
      obtain ⟨k, d⟩ := q
      obtain ⟨rfl, hd⟩ := hp 0 i v k d rfl rfl
      simp only [fillD] at he
      split at he
      · cases he
      · rename_i off size hpl
        split at he
        · rename_i hc
          obtain ⟨c1, c2, c3⟩ := hc
          have hpt := den_pts hd c1
          have := h.put hpt off (by omega)
          obtain ⟨cs', e1, e2⟩ := ih pd _ _ ds' this (by simpa using hl) (fun j i' v' k' d' h1 h2 => hp (j + 1) i' v' k' d' (by simpa using h1) (by simpa using h2)) he
          refine ⟨cs', ?_, e2⟩
          have s1 := hpt.size
          have s2 := h.size
          simp only [Instr.fill, hpl]
          rw [if_neg (by simp; omega)]
          exact e1
        · cases he

/-! build -/
theorem run_mapM_ok {α β : Type} (f : α → Sem β) (g : α → β) (w : World) (xs : Array α) (h : ∀ x ∈ xs, (f x).run P w = .ok (g x) w) : (xs.mapM f).run P w = .ok (xs.map g) w := by
  rw [Array.mapM_eq_mapM_toList]
  have : ∀ l : List α, (∀ x ∈ l, (f x).run P w = .ok (g x) w) → (l.mapM f).run P w = .ok (l.map g) w := by
    intro l
    induction l with
    | nil => intro _; simp
    | cons x l ih =>
      intro hl
      have h1 := hl x (by simp)
      have h2 := ih (fun y hy => hl y (by simp [hy]))
      simp [List.mapM_cons, h1, h2]
  rw [Sem.run_map, this xs.toList (fun x hx => h x (by simpa using hx))]
  simp only [Result.andThen_ok, ← Array.toList_map, Array.toArray_toList]

def hbuild (T : TI) (parts : List (Nat × D)) (K : D → Prop) : Prop :=
  match T.kk, T.zero with
  | .struct, some z => match fillD (fun i => (T.flds[i]?).map fun (f : Nat × Nat × Bool) => (f.1, f.2.1)) z parts with
    | some ds => K (.agg ds)
    | none => False
  | _, _ => False

theorem pts_zero {t : TypeId} {T : TI} (hT : ti P t = some T) (hz : zfit P t = true) {zs : List D} (e : T.zero = some zs) : ∃ z i, P.info? t = some i ∧ i.zero = some z ∧ Pts M z.cells zs := by
  obtain ⟨i, d, hi, hd, -, -, -, e4, -⟩ := ti_some hT
  rw [e] at e4
  cases hz0 : i.zero with
  | none => rw [hz0] at e4; cases e4
  | some z =>
    rw [hz0] at e4
    injection e4 with e4
    subst e4
    refine ⟨z, i, hi, hz0, by simp, fun j hj => ?_, fun j x hx => ?_⟩
    · simp only [zfit, hi, Option.bind_some, hz0] at hz
      rw [Array.all_eq_true] at hz
      have := hz j hj
      simpa [Array.getD, hj] using this
    · rw [List.getElem?_map] at hx
      obtain ⟨y, hy, rfl⟩ := Option.map_eq_some_iff.1 hx
      have : z.cells.getD j undef = y := by
        rw [Array.getElem?_toList] at hy
        simp [Array.getD, (Array.getElem?_eq_some_iff.1 hy).1, (Array.getElem?_eq_some_iff.1 hy).2]
      rw [this]; exact den_zD1 y

/-- All of a struct's fields have types that are known. -/
def fldsKnown (P : Program) (t : TypeId) : Bool := match P.underlying t with
  | some (.struct fs) => fs.all fun f => (P.info? f.type).isSome && (P.underlying f.type).isSome
  | _ => false

theorem build_goes (h : Sim w0 M σ w) {t : TypeId} {T : TI} (hT : ti P t = some T) (hz : zfit P t = true) (hfk : fldsKnown P t = true) (parts : Array (Nat × Value)) (pd : List (Nat × D)) (hl : parts.size = pd.length)
    (hp : ∀ (j i : Nat) (v : Value) (k : Nat) (d : D), parts[j]? = some (i, v) → pd[j]? = some (k, d) → i = k ∧ Den M v d) {K : D → Store → Prop} (hk : hbuild T pd (K · σ)) : Goes P (Instr.build t parts) w0 M w K := by
  unfold hbuild at hk
  split at hk
  · rename_i zs hkk hzs
    split at hk
    · rename_i ds hds
      obtain ⟨z, i, hi, hz0, hpz⟩ := pts_zero (M := M) hT hz hzs
      obtain ⟨i', d, hi', hd, e1, -, -, -, e5⟩ := ti_some hT
      rw [hi] at hi'; injection hi' with hi'; subst hi'
      rw [hkk] at e1
      cases d <;> simp [kkOf] at e1
      rename_i fs
      simp only [fldsKnown, hd, Array.all_eq_true] at hfk
      have hmap : (fs.mapM fun f => (do pure (f.offset, ← sizeOf f.type) : Sem (Nat × Nat))).run P w = .ok (fs.map fun f => (f.offset, ((P.info? f.type).map (·.size)).getD 0)) w := by
        refine run_mapM_ok _ _ w fs (fun f hf => ?_)
        obtain ⟨j, hj, rfl⟩ := Array.getElem_of_mem hf
        have := hfk j hj
        simp at this
        obtain ⟨a1, a2⟩ := this
        obtain ⟨q, hq⟩ := Option.isSome_iff_exists.1 a1
        simp [run_sizeOf hq, hq]
      have hplace : (fun (i : Nat) => (T.flds[i]?).map fun (f : Nat × Nat × Bool) => (f.1, f.2.1)) = fun (i : Nat) => ((fs.map fun f => (f.offset, ((P.info? f.type).map (·.size)).getD 0))[i]?) := by
        funext j
        rw [e5]
        simp only [fldsOf, List.getElem?_map, Array.getElem?_toList, Option.map_map, Array.getElem?_map]
        cases hj : fs[j]? with
        | none => rfl
        | some f =>
          obtain ⟨hj1, hj2⟩ := Array.getElem?_eq_some_iff.1 hj
          have := hfk j hj1
          simp [hj2] at this
          simp [this.2]
      rw [hplace] at hds
      obtain ⟨cs', f1, f2⟩ := fill_pts (M := M) _ parts.toList pd z.cells zs ds hpz (by simpa using hl) (fun j i v k d h1 h2 => hp j i v k d (by simpa using h1) h2) hds
      refine Goes.pure h (v := .agg cs') ?_ (.agg _ _ f2.size f2.one f2.den) hk
      simp only [Instr.build, Sem.run_bind, run_zeroValue hi hz0, Result.andThen_ok, run_underlying hd, hmap]
      simp only [f1, Sem.run_pure]
    · exact hk.elim
  · exact hk.elim
end Go.HL
