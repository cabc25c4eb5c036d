/- HL, part U: slices within an answer told as lists; words on appending forgotten in the store, too. -/
import Derived.Test.YtdbbbhjajkobaabHLT
set_option linter.unusedVariables false
set_option linter.unusedSimpArgs false
namespace Go.HL
open Go.RowKit
variable {P : Program} {σ : Store}

/-- One block less. -/
def Store.less (σ : Store) (b : Nat) : Store := fun x => if x = b then none else σ x
@[simp] theorem Store.less_same (σ : Store) (b : Nat) : (σ.less b) b = none := by simp [Store.less]
theorem Store.less_ne (σ : Store) (b x : Nat) (h : x ≠ b) : (σ.less b) x = σ x := by simp [Store.less, h]
theorem Store.less_le (σ : Store) (b : Nat) : SLe (σ.less b) σ := fun x o e => by
  unfold Store.less at e
  split at e
  · cases e
  · exact e
theorem SLe.less {σ s : Store} (h : SLe σ s) {b : Nat} (hb : σ b = Option.none) : SLe σ (s.less b) := fun x o e => by
  rw [Store.less_ne _ _ _ (fun hx => by subst hx; rw [hb] at e; cases e)]; exact h x o e
theorem But.less {s : Store} {b : Nat} : But (some b) s (s.less b) := fun x o hn h => by
  rw [Store.less_ne _ _ _ (fun e => hn (by rw [e]))]; exact h

theorem FrzA.goes {w0 w : World} {M : Mem} (h : Sim w0 M σ w) {σ' : Store} (hs : SLe σ' σ) {ds : List D} {i : Nat} {x x' : D} (hi : ds[i]? = some x) (hf : Frz σ' σ x x') {v : Value} (hv : Den M v (.agg ds)) : ∃ M', MLe M M' ∧ Sim w0 M' σ' w ∧ Den M' v (.agg (ds.set i x')) := by
  cases hv with
  | agg vs _ h0 h1 hd =>
    obtain ⟨M', hM, hS, hD⟩ := hf.goes h hs (hd i x hi)
    refine ⟨M', hM, hS, .agg vs _ (by simpa using h0) h1 fun j d hj => ?_⟩
    by_cases hij : i = j
    · subst hij
      have hl : i < ds.length := (List.getElem?_eq_some_iff.1 hi).1
      rw [List.getElem?_set_self hl] at hj
      injection hj with hj; subst hj
      exact hD
    · rw [List.getElem?_set_ne hij] at hj
      exact (hd j d hj).mono hM
theorem HCalls.freezeA {f : FuncId} {as : List D} {Q : D → Store → Prop} (h : HCalls P f as σ fun d s => ∃ ds i x x' s', d = .agg ds ∧ ds[i]? = some x ∧ SLe s' s ∧ (x' = x ∨ Frz s' s x x') ∧ Q (.agg (ds.set i x')) s') : HCalls P f as σ Q :=
  fun w0 M w vs hs hl hd => (h w0 M w vs hs hl hd).mono fun e w' ⟨v, M', d, s, r1, r2, r3, r4, ds, i, x, x', s', e1, e2, e3, e4, e5⟩ => by
    subst e1
    rcases e4 with rfl | e4
    · refine ⟨v, M', _, s', r1, r2, r3.drop e3, ?_, e5⟩
      have : ds.set i x' = ds := by
        apply List.ext_getElem?
        intro j
        by_cases hij : i = j
        · subst hij; rw [List.getElem?_set_self (List.getElem?_eq_some_iff.1 e2).1, e2]
        · rw [List.getElem?_set_ne hij]
      rw [this]; exact r4
    · obtain ⟨M'', hM, hS, hD⟩ := FrzA.goes r3 e3 e2 e4 r4
      exact ⟨v, M'', _, s', r1, r2.trans hM, hS, hD, e5⟩
/-- What is one's own, told as a list: its block is given up. -/
theorem OwV.frz {α : Type} {f : α → List D} {k : Nat} (hf : ∀ a, (f a).length = k) {l : List α} {d : D} {o : Option Nat} {s : Store} (h : OwV f k σ l d o s) (hs : SLe σ s) :
    ∃ s' tok, SLe s' s ∧ SLe σ s' ∧ But o s s' ∧ (.list (l.map f) tok = d ∨ Frz s' s d (.list (l.map f) tok)) ∧ (tok = .ro ∨ tok = .nil) := by
  cases h with
  | nil _ h => subst h; exact ⟨s, .nil, SLe.refl _, hs, But.refl _ _, .inl rfl, .inr rfl⟩
  | cells b c rest _ hb e hc hm hr =>
    refine ⟨s.less b, .ro, Store.less_le _ _, hs.less hb, But.less, .inr ?_, .inl rfl⟩
    have := Frz.slice (s' := s.less b) (s := s) b 0 l.length c k ((l.map f).flatten ++ rest) e (by simp) (by rw [List.length_append, flat_length f k hf]; omega) hc hm
    rwa [List.drop_zero, chunk_flat f k hf] at this

/-! ### Words on appending, forgotten in the store -/
inductive OWk : HObj → HObj → Prop
  | refl (o : HObj) : OWk o o
  | cells (ds ds' : List D) (hl : ds.length = ds'.length) (h : ∀ (i : Nat) (d d' : D), ds[i]? = some d → ds'[i]? = some d' → Wk d d') : OWk (.cells ds) (.cells ds')
def SWk (s s' : Store) : Prop := ∀ b o', s' b = some o' → ∃ o, s b = some o ∧ OWk o o'
theorem SLe.swk {s s' : Store} (h : SLe s' s) : SWk s s' := fun b o e => ⟨o, h b o e, .refl o⟩
theorem SWk.refl (s : Store) : SWk s s := (SLe.refl s).swk
theorem Wk.trans {a b c : D} (h : Wk a b) (h' : Wk b c) : ∀ {M : Mem} {v : Value}, Den M v a → Den M v c := fun hv => h'.goes (h.goes hv)
theorem Sim.weak {w0 w : World} {M : Mem} {s' : Store} (h : Sim w0 M σ w) (hw : SWk σ s') : Sim w0 M s' w := by
  refine ⟨h.base, fun b o e => ?_, h.mem, fun b ds e => ?_, fun b n c k e => ?_, fun b es e => ?_⟩
  · obtain ⟨o', e', -⟩ := hw b o e; exact h.low b o' e'
  · obtain ⟨o', e', hk⟩ := hw b _ e
    cases hk with
    | refl => exact h.cells b ds e'
    | cells ds0 _ hl hk =>
      obtain ⟨cs, t, h1, h2, h3, h4, h5⟩ := h.cells b ds0 e'
      refine ⟨cs, t, h1, h2.trans hl, h3, fun i d hd => ?_, h5⟩
      have hi : i < ds0.length := by have := (List.getElem?_eq_some_iff.1 hd).1; omega
      exact (hk i _ d (List.getElem?_eq_getElem hi) hd).goes (h4 i _ (List.getElem?_eq_getElem hi))
  · obtain ⟨o', e', hk⟩ := hw b _ e
    cases hk with
    | refl => exact h.spare b n c k e'
  · obtain ⟨o', e', hk⟩ := hw b _ e
    cases hk with
    | refl => exact h.maps b es e'
theorem HCalls.weakS {f : FuncId} {ds : List D} {Q : D → Store → Prop} (h : HCalls P f ds σ fun d s => ∃ d' s', Wk d d' ∧ SWk s s' ∧ Q d' s') : HCalls P f ds σ Q := by
  intro w0 M w vs hs hl hd
  refine (h w0 M w vs hs hl hd).mono ?_
  rintro e w' ⟨v, M', d, s, r1, r2, r3, r4, d', s', r5, r6, r7⟩
  exact ⟨v, M', d', s', r1, r2, r3.weak r6, r5.goes r4, r7⟩
theorem Sim.retell {w0 w : World} {M : Mem} {s : Store} (h : Sim w0 M s w) {x : Nat} {ds ds' : List D} (e : s x = some (.cells ds)) (hl : ds.length = ds'.length) (hd : ∀ cs t, w.heap[x]? = some (.cells cs t (0, 0)) → ∀ i d, ds'[i]? = some d → Den M (cs.getD i undef) d) : Sim w0 M (s.set x (.cells ds')) w := by
  have hn : ∀ b o, (s.set x (.cells ds')) b = some o → b ≠ x → s b = some o := fun b o e hne => by rwa [Store.set_ne _ _ _ _ hne] at e
  refine ⟨h.base, fun b o e' => ?_, h.mem, fun b ds2 e' => ?_, fun b n c k e' => ?_, fun b es e' => ?_⟩
  · by_cases hb : b = x
    · subst hb; exact h.low b _ e
    · exact h.low b o (hn b o e' hb)
  · by_cases hb : b = x
    · subst hb
      rw [Store.set_same] at e'
      injection e' with e'; injection e' with e'; subst e'
      obtain ⟨cs, t, h1, h2, h3, h4, h5⟩ := h.cells b ds e
      exact ⟨cs, t, h1, h2.trans hl, h3, hd cs t h1, h5⟩
    · exact h.cells b ds2 (hn b _ e' hb)
  · by_cases hb : b = x
    · subst hb; rw [Store.set_same] at e'; cases e'
    · exact h.spare b n c k (hn b _ e' hb)
  · by_cases hb : b = x
    · subst hb; rw [Store.set_same] at e'; cases e'
    · exact h.maps b es (hn b _ e' hb)
/-- A slice in a block, told as a list: its own block is given up. -/
theorem HCalls.freezeS {f : FuncId} {as : List D} {Q : D → Store → Prop} (h : HCalls P f as σ fun d s => Q d s ∨ ∃ x ds i y y' s1, s1 x = some (.cells ds) ∧ ds[i]? = some y ∧ SLe s1 s ∧ Frz s1 s y y' ∧ Q d (s1.set x (.cells (ds.set i y')))) : HCalls P f as σ Q :=
  fun w0 M w vs hs hl hd => (h w0 M w vs hs hl hd).mono fun e w' ⟨v, M', d, s, r1, r2, r3, r4, r5⟩ => by
    rcases r5 with r5 | ⟨x, ds, i, y, y', s1, e1, e2, e3, e4, e5⟩
    · exact ⟨v, M', d, s, r1, r2, r3, r4, r5⟩
    · obtain ⟨cs, t, h1, h2, h3, h4, h5⟩ := r3.cells x ds (e3 _ _ e1)
      obtain ⟨M'', hM, hS, hD⟩ := e4.goes r3 e3 (h4 i y e2)
      refine ⟨v, M'', d, _, r1, r2.trans hM, hS.retell e1 (by simp) (fun cs' t' h1' j z hz => ?_), r4.mono hM, e5⟩
      rw [h1] at h1'
      injection h1' with h1'
      injection h1' with h1'
      subst h1'
      by_cases hij : i = j
      · subst hij
        rw [List.getElem?_set_self (List.getElem?_eq_some_iff.1 e2).1] at hz
        injection hz with hz; subst hz; exact hD
      · rw [List.getElem?_set_ne hij] at hz
        exact (h4 j z hz).mono hM
/-- What is handed over, told with less. -/
theorem HCalls.preS {f : FuncId} {ds : List D} {Q : D → Store → Prop} {s' : Store} (hw : SWk σ s') (h : HCalls P f ds s' Q) : HCalls P f ds σ Q := fun w0 M w vs hs hl hd => h w0 M w vs (hs.weak hw) hl hd
end Go.HL
