/- HL, part T: several lists that grow at once. -/
import Derived.Test.YtdbbbhjajkobaabHLS
set_option linter.unusedVariables false
set_option linter.unusedSimpArgs false
namespace Go.HL
open Go.RowKit
variable {P : Program} {σ : Store}

/-- The block in which a list may still grow. -/
def Tok.blk : Tok → Option Nat
  | .own b _ _ => some b
  | _ => none
@[simp] theorem Tok.blk_nil : Tok.nil.blk = none := rfl
@[simp] theorem Tok.blk_full : Tok.full.blk = none := rfl
@[simp] theorem Tok.blk_ro : Tok.ro.blk = none := rfl
@[simp] theorem Tok.blk_own (b c k : Nat) : (Tok.own b c k).blk = some b := rfl
/-- A list that may grow, told of the store as it is: its spare room stands there, and is new. -/
inductive GrV (k : Nat) (σ : Store) : List (List D) → Tok → Store → Prop
  | nil (s : Store) : GrV k σ [] .nil s
  | full (es : List (List D)) (s : Store) : GrV k σ es .full s
  | own (es : List (List D)) (b c : Nat) (s : Store) (hb : σ b = none) (hs : s b = some (.spare es.length c k)) : GrV k σ es (.own b c k) s
/-- All stands as it stood, but for one block. -/
def But (b : Option Nat) (s s' : Store) : Prop := ∀ x o, b ≠ some x → s x = some o → s' x = some o
theorem But.refl (b : Option Nat) (s : Store) : But b s s := fun _ _ _ h => h
theorem But.set {s : Store} {b : Nat} (o : HObj) : But (some b) s (s.set b o) := fun x o' hn h => by
  rw [Store.set_ne _ _ _ _ (fun e => hn (by rw [e]))]; exact h
theorem But.new {s : Store} {b : Nat} (hb : s b = none) (r : Option Nat) (o : HObj) : But r s (s.set b o) := fun x o' hn h => by
  rw [Store.set_ne _ _ _ _ (fun e => by subst e; rw [hb] at h; cases h)]; exact h
theorem SLe.but {s s' : Store} (h : SLe s s') (r : Option Nat) : But r s s' := fun x o _ e => h x o e
theorem But.trans {r : Option Nat} {a b c : Store} (h : But r a b) (h' : But r b c) : But r a c := fun x o n e => h' x o n (h x o n e)
/-- A list stays what it is while other blocks are written. -/
theorem GrV.keep {k : Nat} {es : List (List D)} {tok : Tok} {s s' : Store} (h : GrV k σ es tok s) {r : Option Nat} (hb : But r s s') (hr : ∀ b, tok.blk = some b → r ≠ some b) : GrV k σ es tok s' := by
  cases h with
  | nil => exact .nil s'
  | full => exact .full es s'
  | own _ b c _ h1 h2 => exact .own es b c s' h1 (hb b _ (hr b rfl) h2)
theorem GrV.mono {k : Nat} {es : List (List D)} {tok : Tok} {s s' : Store} (h : GrV k σ es tok s) (hb : SLe s s') : GrV k σ es tok s' := h.keep (hb.but none) fun _ _ e => by cases e
/-- Its block is new, and is none of those that stand otherwise. -/
theorem GrV.blk {k : Nat} {es : List (List D)} {tok : Tok} {s : Store} (h : GrV k σ es tok s) {b : Nat} (e : tok.blk = some b) : σ b = none ∧ ∃ c, s b = some (.spare es.length c k) := by
  cases h with
  | nil => cases e
  | full => cases e
  | own _ b' c _ h1 h2 => simp at e; subst e; exact ⟨h1, c, h2⟩
theorem GrV.append {k : Nat} {es : List (List D)} {tok : Tok} {s : Store} (h : GrV k σ es tok s) (hs : SLe σ s) {E : TI} (hk : E.size = k) (xs : List (List D)) (h1 : (es.length + xs.length) * E.bytes ≤ 140737488355328) (h2 : es.length + xs.length ≤ 9223372036854775807)
    {K : D → Store → Prop} (hK : ∀ tok' s', SLe σ s' → But tok.blk s s' → (∀ b, tok'.blk = some b → tok.blk = some b ∨ s b = none) → GrV k σ (es ++ xs) tok' s' → K (.list (es ++ xs) tok') s') : appA false E xs (.list es tok) s K := by
  have new : ∀ (b c : Nat), s b = none → K (.list (es ++ xs) (.own b c E.size)) (s.set b (.spare (es.length + xs.length) c E.size)) := fun b c hb => by
    refine hK _ _ (hs.put (hs.none hb) _) (But.new hb _ _) (fun b' e => .inr ?_) ?_
    · simp at e; subst e; exact hb
    · rw [hk]; refine .own _ b c _ (hs.none hb) ?_
      rw [Store.set_same]; simp
  cases h with
  | nil =>
    rw [appA_nil]
    refine ⟨⟨h1, h2⟩, fun e => ?_, fun e b c hb hc => ?_⟩
    · subst e; exact hK _ _ hs (But.refl _ _) (fun b e => by cases e) (.nil s)
    · simpa using new b c hb
  | full _ =>
    rw [appA_full]
    refine ⟨⟨h1, h2⟩, fun e => ?_, fun e b c hb hc => ?_⟩
    · subst e
      have := hK .full s hs (But.refl _ _) (fun b e => by cases e)
      simp only [List.append_nil] at this
      exact this (.full es s)
    · exact new b c hb
  | own _ b c _ hb hsb =>
    rw [appA_own]
    refine ⟨⟨h1, h2⟩, ⟨hsb, hk.symm⟩, fun e => ?_, fun e b' c' hb' hc' => ?_⟩
    · refine hK _ _ (hs.put hb _) (But.set _) (fun b' e => .inl e) ?_
      refine .own _ b c _ hb ?_
      rw [Store.set_same]; simp
    · have := new b' c' hb'
      rw [hk] at this; exact this
theorem GrV.appendT {α : Type} {f : α → List D} {k : Nat} {l : List α} {tok : Tok} {s : Store} (h : GrV k σ (l.map f) tok s) (hs : SLe σ s) (xs : List α) {ds : List (List D)} {E : TI} {K : D → Store → Prop} (hds : ds = xs.map f) (hk : E.size = k)
    (h1 : (l.length + xs.length) * E.bytes ≤ 140737488355328) (h2 : l.length + xs.length ≤ 9223372036854775807)
    (hK : ∀ out tok' s', out = l ++ xs → SLe σ s' → But tok.blk s s' → (∀ b, tok'.blk = some b → tok.blk = some b ∨ s b = none) → GrV k σ (out.map f) tok' s' → K (.list (out.map f) tok') s') : appA false E ds (.list (l.map f) tok) s K := by
  subst hds
  refine h.append hs hk (xs.map f) (by simpa using h1) (by simpa using h2) ?_
  intro tok' s' g1 g2 g3 g4
  rw [← List.map_append] at g4 ⊢
  exact hK _ _ _ rfl g1 g2 g3 g4

/-! ### Several slices of one's own at once -/
/-- A slice of one's own, told of the store as it is: nil, or a block that is new. -/
inductive OwV {α : Type} (f : α → List D) (k : Nat) (σ : Store) (l : List α) : D → Option Nat → Store → Prop
  | nil (s : Store) (h : l = []) : OwV f k σ l (.list [] .nil) none s
  | cells (b c : Nat) (rest : List D) (s : Store) (hb : σ b = none) (hs : s b = some (.cells ((l.map f).flatten ++ rest))) (hc : l.length ≤ c) (hm : c ≤ 9223372036854775807) (hr : rest.length = (c - l.length) * k) : OwV f k σ l (.lit (.slice (some ⟨b, 0, none⟩) l.length c)) (some b) s
theorem OwV.keep {α : Type} {f : α → List D} {k : Nat} {l : List α} {d : D} {o : Option Nat} {s s' : Store} (h : OwV f k σ l d o s) {r : Option Nat} (hb : But r s s') (hr : ∀ b, o = some b → r ≠ some b) : OwV f k σ l d o s' := by
  cases h with
  | nil _ h => exact .nil s' h
  | cells b c rest _ h1 h2 h3 h4 h5 => exact .cells b c rest s' h1 (hb b _ (hr b rfl) h2) h3 h4 h5
theorem OwV.view {α : Type} {f : α → List D} {k : Nat} {l : List α} {d : D} {o : Option Nat} {s : Store} (h : OwV f k σ l d o s) : View f k s l d := by
  cases h with
  | nil _ h => subst h; exact .list .nil
  | cells b c rest _ _ h2 => exact .cells b c rest h2
theorem OwV.append {α : Type} {f : α → List D} {k : Nat} (hf : ∀ a, (f a).length = k) {s : Store} {l : List α} {d : D} {o : Option Nat} (ho : OwV f k σ l d o s) (hs : SLe σ s) {E : TI} {z : List D} (hk : E.size = k) (hz : E.zero = some z) (hzk : z.length = k) (xs : List α) {ds : List (List D)} (hds : ds = xs.map f)
    (h1 : (l.length + xs.length) * E.bytes ≤ 140737488355328) (h2 : l.length + xs.length ≤ 9223372036854775807)
    {K : D → Store → Prop} (hK : ∀ d' o' s', SLe σ s' → But o s s' → (∀ b, o' = some b → o = some b ∨ s b = none) → OwV f k σ (l ++ xs) d' o' s' → K d' s') : appA true E ds d s K := by
  subst hds
  cases ho with
  | nil _ h =>
    subst h
    rw [appA_lm]
    refine ⟨⟨by simpa using h1, by simpa using h2⟩, rfl, fun e => ?_, fun e z' hz' b c hb hc hm => ?_⟩
    · have : xs = [] := by simpa using e
      subst this
      exact hK _ none _ hs (But.refl _ _) (fun b e => by cases e) (.nil s rfl)
    · rw [hz] at hz'; injection hz' with hz'; subst hz'
      simp only [List.length_nil, Nat.zero_add, List.flatten_nil, List.nil_append, List.length_map] at hc ⊢
      refine hK _ (some b) _ (hs.put (hs.none hb) _) (But.new hb _ _) (fun b' e => .inr (by injection e with e; subst e; exact hb)) ?_
      exact .cells (f := f) (k := k) (l := xs) b c (zrep (c - xs.length) z) _ (hs.none hb) (Store.set_same _ _ _) hc hm (by rw [zrep_len, hzk])
  | cells b c rest _ hb e hc hm hr =>
    rw [appA_lit, e, appL_cells]
    have hfl : ((l.map f).flatten ++ rest).length = c * k := by
      rw [List.length_append, flat_length f k hf, hr, ← Nat.add_mul]; congr 1; omega
    refine ⟨⟨hc, by rw [hk, hfl]; omega, by simpa using h1, by simpa using h2⟩, fun h3 => ?_, fun h3 z' hz' b' c' hb' h4 h5 => ?_⟩
    · simp only [List.length_map] at h3 ⊢
      have hl : (l ++ xs).length = l.length + xs.length := List.length_append
      have key : spl ((l.map f).flatten ++ rest) (0 + l.length * E.size) (xs.map f).flatten = ((l ++ xs).map f).flatten ++ rest.drop (xs.length * k) := by
        rw [hk, Nat.zero_add]
        unfold spl
        rw [flat_take f k hf rest l l.length (Nat.le_refl _), List.take_length, flat_length f k hf]
        have e1 : l.length * k = (l.map f).flatten.length := by rw [flat_length f k hf]
        rw [e1, ← List.drop_drop, List.drop_left' rfl]
        simp
      rw [key, ← hl]
      refine hK _ (some b) _ (hs.put hb _) (But.set _) (fun b' e => .inl e) ?_
      refine .cells (f := f) (k := k) (l := l ++ xs) b c (rest.drop (xs.length * k)) _ hb (Store.set_same _ _ _) (by omega) hm ?_
      rw [List.length_drop, hr, hl, ← Nat.mul_sub_right_distrib]; congr 1; omega
    · rw [hz] at hz'; injection hz' with hz'; subst hz'
      simp only [List.length_map] at h3 h4 ⊢
      have hl : (l ++ xs).length = l.length + xs.length := List.length_append
      have key : ((((l.map f).flatten ++ rest).drop 0).take (l.length * E.size) ++ (xs.map f).flatten ++ zrep (c' - (l.length + xs.length)) z) = ((l ++ xs).map f).flatten ++ zrep (c' - (l ++ xs).length) z := by
        rw [hk, List.drop_zero, flat_take f k hf rest l l.length (Nat.le_refl _), List.take_length, hl]
        simp
      rw [key, ← hl]
      refine hK _ (some b') _ (hs.put (hs.none hb') _) (But.new hb' _ _) (fun b2 e => .inr (by injection e with e; subst e; exact hb')) ?_
      exact .cells (f := f) (k := k) (l := l ++ xs) b' c' _ _ (hs.none hb') (Store.set_same _ _ _) (by rw [hl]; exact h4) h5 (by rw [zrep_len, hzk])
theorem OwV.sized {α : Type} {f : α → List D} {k : Nat} {l : List α} {d : D} {o : Option Nat} {s : Store} (h : OwV f k σ l d o s) : SizedAs d k := by
  cases h with
  | nil _ h => simp
  | cells b c rest => trivial
theorem OwV.capOk {α : Type} {f : α → List D} {k : Nat} {l : List α} {d : D} {o : Option Nat} {s : Store} (h : OwV f k σ l d o s) : capOk d = true := by
  cases h with
  | nil _ h => rfl
  | cells b c rest _ _ _ hc => simpa using hc
theorem OwV.mono {α : Type} {f : α → List D} {k : Nat} {l : List α} {d : D} {o : Option Nat} {s s' : Store} (h : OwV f k σ l d o s) (hs : SLe s s') : OwV f k σ l d o s' := h.keep (hs.but none) fun _ _ e => by cases e
theorem OwV.low {α : Type} {f : α → List D} {k : Nat} {σ' : Store} {l : List α} {d : D} {o : Option Nat} {s : Store} (h : OwV f k σ' l d o s) (hs : SLe σ σ') : OwV f k σ l d o s := by
  cases h with
  | nil _ h => exact .nil s h
  | cells b c rest _ h1 h2 h3 h4 h5 => exact .cells b c rest s (hs.none h1) h2 h3 h4 h5
theorem OwV.new {α : Type} {f : α → List D} {k : Nat} {l : List α} {d : D} {o : Option Nat} {s : Store} (h : OwV f k σ l d o s) {b : Nat} (e : o = some b) : σ b = none ∧ s b ≠ none := by
  cases h with
  | nil => cases e
  | cells b' c rest _ h1 h2 => injection e with e; subst e; exact ⟨h1, by rw [h2]; simp⟩
theorem OwV.word {α : Type} {f : α → List D} {k : Nat} {l : List α} {d : D} {o : Option Nat} {s : Store} (h : OwV f k σ l d o s) : (∃ b n c, d = .lit (.slice (some ⟨b, 0, none⟩) n c)) ∨ d = .list [] .nil := by
  cases h with
  | nil => exact .inr rfl
  | cells b c => exact .inl ⟨b, _, c, rfl⟩
theorem OwV.src {α : Type} {f : α → List D} {k : Nat} (hf : ∀ a, (f a).length = k) {l : List α} {d : D} {o : Option Nat} {s : Store} (h : OwV f k σ l d o s) : srcE k d s = some (l.map f) := by
  cases h with
  | nil _ h => subst h; rfl
  | cells b c rest _ h1 h2 h3 h4 h5 =>
    rw [srcE_lit, h2, srcB_cells, if_pos (by rw [List.length_append, flat_length f k hf]; omega), List.drop_zero, chunk_flat f k hf]
end Go.HL
