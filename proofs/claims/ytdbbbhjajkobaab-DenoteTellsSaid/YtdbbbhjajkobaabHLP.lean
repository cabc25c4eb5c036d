/- HL, part P: a block that nobody writes any more is told as a list. -/
import Derived.Test.YtdbbbhjajkobaabHLN
set_option linter.unusedVariables false
set_option linter.unusedSimpArgs false
namespace Go.HL
open Go.RowKit
variable {P : Program} {w0 w : World} {M : Mem} {σ : Store}

theorem Sim.freeze (h : Sim w0 M σ w) {b : Nat} {ds : List D} (e : σ b = some (.cells ds)) {σ' : Store} (hs : SLe σ' σ) (hb : σ' b = none) :
    ∃ (M' : Mem) (cs : Array Value), MLe M M' ∧ Sim w0 M' σ' w ∧ cs.size = ds.length ∧ (∀ o, M' b o = cs[o]?) ∧ ∀ j d, ds[j]? = some d → Den M' (cs.getD j undef) d := by
  obtain ⟨cs, t, hrow, hsz, hone, hden, hno⟩ := h.cells b ds e
  let M' : Mem := fun x o => if x = b then cs[o]? else M x o
  have hM : MLe M M' := fun x o v hv => by
    show (if x = b then cs[o]? else M x o) = some v
    by_cases hx : x = b
    · subst hx; rw [hno] at hv; cases hv
    · rw [if_neg hx]; exact hv
  have hg := h.drop hs
  have hne : ∀ x o, σ' x = some o → x ≠ b := fun x o hx hxb => by subst hxb; rw [hb] at hx; cases hx
  refine ⟨M', cs, hM, ⟨hg.base, hg.low, fun x o v hv => ?_, fun x xs hx => ?_, fun x n c k hx => ?_, hg.maps⟩, hsz, fun o => by simp [M'], fun j d hd => (hden j d hd).mono hM⟩
  · by_cases hx : x = b
    · subst hx
      have hv : cs[o]? = some v := by simpa [M'] using hv
      refine ⟨by rw [cell_of_row w x o cs t (0, 0) hrow]; exact hv, ?_⟩
      obtain ⟨ho, hv⟩ := Array.getElem?_eq_some_iff.1 hv
      have := hone o ho
      simp only [Array.getD, ho, dif_pos] at this
      rw [← hv]; exact this
    · have hv : M x o = some v := by simpa [M', hx] using hv
      exact h.mem x o v hv
  · obtain ⟨cs', t', r1, r2, r3, r4, r5⟩ := hg.cells x xs hx
    exact ⟨cs', t', r1, r2, r3, fun i d hd => (r4 i d hd).mono hM, fun o => by show (if x = b then _ else _) = none; rw [if_neg (hne x _ hx)]; exact r5 o⟩
  · obtain ⟨cs', t', r1, r2, r3, r4⟩ := hg.spare x n c k hx
    exact ⟨cs', t', r1, r2, r3, fun o ho => by show (if x = b then _ else _) = none; rw [if_neg (hne x _ hx)]; exact r4 o ho⟩

/-- The slice of a block told as a list. -/
inductive Frz (s' s : Store) : D → D → Prop
  | slice (b o n c k : Nat) (ds : List D) (e : s b = some (.cells ds)) (hb : s' b = none) (h1 : o + n * k ≤ ds.length) (h2 : n ≤ c) (h3 : c ≤ 9223372036854775807) : Frz s' s (.lit (.slice (some ⟨b, o, none⟩) n c)) (.list (chunk n k (ds.drop o)) .ro)

theorem Frz.goes (h : Sim w0 M σ w) {σ' : Store} (hs : SLe σ' σ) {d d' : D} (hf : Frz σ' σ d d') {v : Value} (hv : Den M v d) : ∃ M', MLe M M' ∧ Sim w0 M' σ' w ∧ Den M' v d' := by
  cases hf with
  | slice b o n c k ds e hb h1 h2 h3 =>
    obtain ⟨M', cs, hM, hS, hsz, hcell, hden⟩ := h.freeze e hs hb
    have := den_lit_inv hv; subst this
    refine ⟨M', hM, hS, .list _ _ _ k b o _ .ro (fun i j => cs.getD (o + i * k + j) undef) (by rw [chunk_length]) h2 h3 (fun _ => rfl) (fun i e he => ?_) (fun i j hi hj => ?_) (fun i e j d he hj => ?_) trivial⟩
    · have hi : i < n := by have := (List.getElem?_eq_some_iff.1 he).1; rwa [chunk_length] at this
      rw [chunk_get n k _ i hi] at he
      injection he with he; subst he
      have : i * k + k ≤ n * k := by rw [← Nat.succ_mul]; exact Nat.mul_le_mul_right k hi
      simp; omega
    · have : i * k + k ≤ n * k := by rw [← Nat.succ_mul]; exact Nat.mul_le_mul_right k hi
      rw [hcell, Array.getD_eq_getD_getElem?]
      have hlt : o + i * k + j < cs.size := by omega
      simp [hlt]
    · have hi : i < n := by have := (List.getElem?_eq_some_iff.1 he).1; rwa [chunk_length] at this
      rw [chunk_get n k _ i hi] at he
      injection he with he; subst he
      have hjk : j < k := by
        have := (List.getElem?_eq_some_iff.1 hj).1
        rw [List.length_take] at this; omega
      rw [List.getElem?_take, if_pos hjk, List.getElem?_drop, List.getElem?_drop] at hj
      exact hden _ _ (by rw [Nat.add_assoc]; exact hj)

theorem HCalls.freeze {f : FuncId} {ds : List D} {Q : D → Store → Prop} (h : HCalls P f ds σ fun d s => Q d s ∨ ∃ d' s', SLe s' s ∧ Frz s' s d d' ∧ Q d' s') : HCalls P f ds σ Q :=
  fun w0 M w vs hs hl hd => (h w0 M w vs hs hl hd).mono fun e w' ⟨v, M', d, s, r1, r2, r3, r4, r5⟩ => by
    rcases r5 with r5 | ⟨d', s', hss, hf, hq⟩
    · exact ⟨v, M', d, s, r1, r2, r3, r4, r5⟩
    · obtain ⟨M'', hM, hS, hD⟩ := hf.goes r3 hss r4
      exact ⟨v, M'', d', s', r1, r2.trans hM, hS, hD, hq⟩

/-- What hands back this, and leaves the store. -/
def Is (r : D) (σ : Store) (d : D) (s : Store) : Prop := d = r ∧ s = σ
theorem Ret.of {f : FuncId} {ds : List D} {r : D} (h : ∀ σ, HCalls P f ds σ fun d s => d = r ∧ s = σ) : Ret P f ds r := fun σ Q hq => (h σ).mono fun d s ⟨h1, h2⟩ => by subst h1 h2; exact hq
theorem isTrue_of {b : Bool} (h : b = true) : b = true := h
theorem dec_t {p : Prop} [Decidable p] (h : decide p = true) : p := of_decide_eq_true h
theorem dec_f {p : Prop} [Decidable p] (h : decide p = false) : ¬ p := of_decide_eq_false h

/-! ### Lists of structs: a slice as it is read -/
theorem flat_length {α : Type} (f : α → List D) (k : Nat) (hf : ∀ a, (f a).length = k) (l : List α) : (l.map f).flatten.length = l.length * k := by
  induction l with
  | nil => simp
  | cons a l ih => simp only [List.map_cons, List.flatten_cons, List.length_append, ih, hf, List.length_cons, Nat.succ_mul]; omega
theorem flat_part {α : Type} (f : α → List D) (k : Nat) (hf : ∀ a, (f a).length = k) (rest : List D) (l : List α) (i : Nat) (a : α) (h : l[i]? = some a) : (((l.map f).flatten ++ rest).drop (i * k)).take k = f a := by
  induction l generalizing i with
  | nil => simp at h
  | cons x l ih =>
    cases i with
    | zero =>
      simp only [List.getElem?_cons_zero, Option.some.injEq] at h
      subst h
      simp only [List.map_cons, List.flatten_cons, Nat.zero_mul, List.drop_zero, List.append_assoc]
      rw [← hf x, List.take_left']; rfl
    | succ i =>
      simp only [List.getElem?_cons_succ] at h
      have := ih i h
      simp only [List.map_cons, List.flatten_cons, List.append_assoc]
      rw [Nat.succ_mul, Nat.add_comm, ← hf x, ← List.drop_drop, List.drop_left' rfl, hf x]
      exact this
theorem flat_drop {α : Type} (f : α → List D) (k : Nat) (hf : ∀ a, (f a).length = k) (rest : List D) (l : List α) (i : Nat) (h : i ≤ l.length) : ((l.map f).flatten ++ rest).drop (i * k) = ((l.drop i).map f).flatten ++ rest := by
  induction l generalizing i with
  | nil => simp at h; subst h; simp
  | cons x l ih =>
    cases i with
    | zero => simp
    | succ i =>
      simp only [List.map_cons, List.flatten_cons, List.append_assoc, List.drop_succ_cons]
      rw [Nat.succ_mul, Nat.add_comm, ← hf x, ← List.drop_drop, List.drop_left' rfl, hf x]
      exact ih i (by simpa using h)
theorem flat_take {α : Type} (f : α → List D) (k : Nat) (hf : ∀ a, (f a).length = k) (rest : List D) (l : List α) (i : Nat) (h : i ≤ l.length) : ((l.map f).flatten ++ rest).take (i * k) = ((l.take i).map f).flatten := by
  induction l generalizing i with
  | nil => simp at h; subst h; simp
  | cons x l ih =>
    cases i with
    | zero => simp
    | succ i =>
      simp only [List.map_cons, List.flatten_cons, List.append_assoc, List.take_succ_cons]
      rw [Nat.succ_mul, Nat.add_comm, ← hf x, List.take_append, ← ih i (by simpa using h), hf x]
      simp [List.take_of_length_le, hf x]
theorem flat_spl {α : Type} (f : α → List D) (k : Nat) (hf : ∀ a, (f a).length = k) (rest : List D) (l : List α) (i : Nat) (a : α) (h : i < l.length) : spl ((l.map f).flatten ++ rest) (i * k) (f a) = ((l.set i a).map f).flatten ++ rest := by
  unfold spl
  rw [flat_take f k hf rest l i (by omega), hf a]
  have : i * k + k = (i + 1) * k := by rw [Nat.succ_mul]
  rw [this, flat_drop f k hf rest l (i + 1) (by omega)]
  rw [List.set_eq_take_append_cons_drop, if_pos h]
  simp
theorem chunk_flat {α : Type} (f : α → List D) (k : Nat) (hf : ∀ a, (f a).length = k) (rest : List D) (l : List α) : chunk l.length k ((l.map f).flatten ++ rest) = l.map f := by
  induction l with
  | nil => rfl
  | cons x l ih =>
    simp only [List.length_cons, chunk, List.map_cons, List.flatten_cons, List.append_assoc]
    rw [← hf x, List.take_left' rfl, List.drop_left' rfl, hf x, ih]
theorem wrap_nat (n : Nat) (h : n ≤ 9223372036854775807) : IntKind.i64.wrap (n : Int) = n := wrap_i64 _ (by omega) (by omega)
theorem wrap_succ (n : Nat) (h : n + 1 ≤ 9223372036854775807) : IntKind.i64.wrap ((n : Int) + 1) = ((n + 1 : Nat) : Int) := by rw [wrap_i64] <;> omega

/-- A slice of structs as it is read: a list, or a block's head. -/
inductive View {α : Type} (f : α → List D) (k : Nat) (σ : Store) (l : List α) : D → Prop
  | list (tok : Tok) : View f k σ l (.list (l.map f) tok)
  | cells (b c : Nat) (rest : List D) (e : σ b = some (.cells ((l.map f).flatten ++ rest))) : View f k σ l (.lit (.slice (some ⟨b, 0, none⟩) l.length c))
/-- Where the first is that is so. -/
def idx {α : Type} (p : α → Bool) (l : List α) : Int := if l.any p then (l.findIdx p : Int) else -1
theorem idx_at {α : Type} {p : α → Bool} {l : List α} {i : Nat} {a : α} (h : l[i]? = some a) (hp : p a = true) (hn : ∀ j, j < i → ∀ x, l[j]? = some x → p x = false) : idx p l = i := by
  obtain ⟨hi, rfl⟩ := List.getElem?_eq_some_iff.1 h
  have h1 : l.any p = true := List.any_eq_true.2 ⟨_, List.getElem_mem hi, hp⟩
  have h2 : l.findIdx p = i := (List.findIdx_eq hi).2 ⟨hp, fun j hj => by simpa using hn j hj _ (List.getElem?_eq_getElem (by omega))⟩
  simp [idx, h1, h2]
theorem idx_none {α : Type} {p : α → Bool} {l : List α} (hn : ∀ j, j < l.length → ∀ x, l[j]? = some x → p x = false) : idx p l = -1 := by
  have h1 : l.any p = false := by
    rw [List.any_eq_false]
    intro x hx
    obtain ⟨j, hj, rfl⟩ := List.mem_iff_getElem.1 hx
    have := hn j hj _ (List.getElem?_eq_getElem hj)
    simp [this]
  simp [idx, h1]
theorem idx_range {α : Type} (p : α → Bool) (l : List α) : (idx p l = -1 ∧ l.any p = false) ∨ (0 ≤ idx p l ∧ idx p l < l.length ∧ l.any p = true) := by
  unfold idx
  cases h : l.any p with
  | false => simp
  | true =>
    right
    have : l.findIdx p < l.length := List.findIdx_lt_length_of_exists (by simpa using h)
    simp only [if_true]
    exact ⟨by omega, by omega, trivial⟩

theorem zrep_len (n : Nat) (z : List D) : (zrep n z).length = n * z.length := by
  induction n with
  | zero => simp
  | succ n ih => simp [ih, Nat.succ_mul]; omega
/-- A slice of structs that is the caller's alone: nil, or a block of its own. -/
inductive Own {α : Type} (f : α → List D) (k : Nat) (σ : Store) (l : List α) : D → Store → Prop
  | nil (h : l = []) : Own f k σ l (.list [] .nil) σ
  | cells (b c : Nat) (rest : List D) (hb : σ b = none) (hc : l.length ≤ c) (hm : c ≤ 9223372036854775807) (hr : rest.length = (c - l.length) * k) : Own f k σ l (.lit (.slice (some ⟨b, 0, none⟩) l.length c)) (σ.set b (.cells ((l.map f).flatten ++ rest)))
theorem Own.le {α : Type} {f : α → List D} {k : Nat} {σ s : Store} {l : List α} {d : D} (h : Own f k σ l d s) : SLe σ s := by
  cases h with
  | nil => exact SLe.refl σ
  | cells b c rest hb => exact (SLe.refl σ).set hb _
theorem Own.view {α : Type} {f : α → List D} {k : Nat} {σ s : Store} {l : List α} {d : D} (h : Own f k σ l d s) : View f k s l d := by
  cases h with
  | nil h => subst h; exact .list .nil
  | cells b c rest hb => exact .cells b c rest (by simp)
/-- What is owned, told as a list. -/
theorem Own.freeze {α : Type} {f : α → List D} {k : Nat} (hf : ∀ a, (f a).length = k) {σ s : Store} {l : List α} {d : D} (h : Own f k σ l d s) : d = .list (l.map f) .nil ∧ s = σ ∨ ∃ d' s', SLe s' s ∧ Frz s' s d d' ∧ d' = .list (l.map f) .ro ∧ s' = σ := by
  cases h with
  | nil h => subst h; exact .inl ⟨rfl, rfl⟩
  | cells b c rest hb hc hm hr =>
    refine .inr ⟨_, σ, (SLe.refl σ).set hb _, .slice b 0 l.length c k ((l.map f).flatten ++ rest) (by simp) hb ?_ hc hm, ?_, rfl⟩
    · rw [List.length_append, flat_length f k hf]; omega
    · rw [List.drop_zero, chunk_flat f k hf]
theorem SLe_over {σ : Store} {b b2 : Nat} (hb2 : σ b2 = none) (hne : b2 ≠ b) (A B C : HObj) : SLe (σ.set b C) (((σ.set b A).set b2 B).set b C) := by
  intro x o h
  simp only [Store.set] at h ⊢
  by_cases h1 : x = b
  · simp_all
  · by_cases h2 : x = b2
    · subst h2; simp_all
    · simp_all
theorem SLe_drop2 {σ : Store} {b b2 : Nat} (hb2 : σ b2 = none) (hne : b2 ≠ b) (A B : HObj) : SLe (σ.set b A) ((σ.set b A).set b2 B) := (SLe.refl _).set (by simp [hne, hb2]) B
/-- Another store is as big, and the same is put into both. -/
theorem SLe_drop {σ σ' : Store} (h : SLe σ σ') (b : Nat) {A : HObj} : SLe (σ.set b A) (σ'.set b A) := by
  intro x o e
  simp only [Store.set] at e ⊢
  by_cases h1 : x = b
  · simp_all
  · simp only [h1, if_false] at e ⊢; exact h x o e
theorem SLe.none {σ σ' : Store} (h : SLe σ σ') {b : Nat} (hb : σ' b = none) : σ b = none := by
  cases e : σ b with
  | none => rfl
  | some o => rw [h b o e] at hb; cases hb
theorem Own.drop {α : Type} {f : α → List D} {k : Nat} {σ σ' s : Store} {l : List α} {d : D} (h : Own f k σ' l d s) (hs : SLe σ σ') : ∃ s', SLe s' s ∧ Own f k σ l d s' := by
  cases h with
  | nil h => exact ⟨σ, hs, .nil h⟩
  | cells b c rest hb hc hm hr => exact ⟨_, SLe_drop hs b, .cells b c rest (hs.none hb) hc hm hr⟩
/-- A call whose answer is owned, told as a list. -/
theorem HCalls.frozen {α : Type} {f : α → List D} {k : Nat} (hf : ∀ a, (f a).length = k) {g : FuncId} {ds : List D} {l : List α} (h : HCalls P g ds σ fun d s => Own f k σ l d s) : HCalls P g ds σ fun d s => (∃ tok, (tok = .ro ∨ tok = .nil) ∧ d = .list (l.map f) tok) ∧ s = σ :=
  HCalls.freeze (h.mono fun d s ho => by
    rcases ho.freeze hf with ⟨rfl, rfl⟩ | ⟨d', s', h1, h2, rfl, rfl⟩
    · exact .inl ⟨⟨_, .inr rfl, rfl⟩, rfl⟩
    · exact .inr ⟨_, _, h1, h2, ⟨⟨_, .inl rfl, rfl⟩, rfl⟩⟩)
theorem Own.sized {α : Type} {f : α → List D} {k : Nat} {s : Store} {l : List α} {d : D} (h : Own f k σ l d s) : SizedAs d k := by
  cases h with
  | nil h => simp
  | cells b c rest => trivial
theorem Own.capOk {α : Type} {f : α → List D} {k : Nat} {s : Store} {l : List α} {d : D} (h : Own f k σ l d s) : capOk d = true := by
  cases h with
  | nil h => rfl
  | cells b c rest hb hc => simpa using hc
/-- Appending to what is owned. -/
theorem Own.append {α : Type} {f : α → List D} {k : Nat} (hf : ∀ a, (f a).length = k) {s s2 : Store} {l : List α} {d : D} (ho : Own f k σ l d s) (hs : SLe s s2) {E : TI} {z : List D} (hk : E.size = k) (hz : E.zero = some z) (hzk : z.length = k) (xs : List α) {ds : List (List D)} (hds : ds = xs.map f)
    (h1 : (l.length + xs.length) * E.bytes ≤ 140737488355328) (h2 : l.length + xs.length ≤ 9223372036854775807) {K : D → Store → Prop} (hK : ∀ d' s' s3, SLe s3 s' → Own f k σ (l ++ xs) d' s3 → K d' s') : appA true E ds d s2 K := by
  subst hds
  have hsig : SLe σ s2 := ho.le.trans hs
  cases ho with
  | nil h =>
    subst h
    rw [appA_lm]
    refine ⟨⟨by simpa using h1, by simpa using h2⟩, rfl, fun e => ?_, fun e z' hz' b c hb hc hm => ?_⟩
    · have : xs = [] := by simpa using e
      subst this
      exact hK _ _ _ hs (.nil rfl)
    · rw [hz] at hz'; injection hz' with hz'; subst hz'
      simp only [List.length_nil, Nat.zero_add, List.flatten_nil, List.nil_append, List.length_map] at hc ⊢
      have := Own.cells (f := f) (k := k) (l := xs) b c (zrep (c - xs.length) z) (hsig.none hb) hc hm (by rw [zrep_len, hzk])
      exact hK _ _ _ (SLe_drop hsig b) this
  | cells b c rest hb hc hm hr =>
    have e : s2 b = some (.cells ((l.map f).flatten ++ rest)) := hs _ _ (by simp)
    rw [appA_lit, e, appL_cells]
    have hfl : ((l.map f).flatten ++ rest).length = c * k := by
      rw [List.length_append, flat_length f k hf, hr, ← Nat.add_mul]; congr 1; omega
    refine ⟨⟨hc, by rw [hk, hfl]; omega, by simpa using h1, by simpa using h2⟩, fun h3 => ?_, fun h3 z' hz' b' c' hb' h4 h5 => ?_⟩
    · simp only [List.length_map] at h3 ⊢
      have hl : (l ++ xs).length = l.length + xs.length := List.length_append
      have := Own.cells (f := f) (k := k) (l := l ++ xs) b c (rest.drop (xs.length * k)) hb (by omega) hm (by
        rw [List.length_drop, hr, hl, ← Nat.mul_sub_right_distrib]; congr 1; omega)
      rw [hl] at this
      refine hK _ _ _ (SLe_drop hsig b) ?_
      have key : spl ((l.map f).flatten ++ rest) (0 + l.length * E.size) (xs.map f).flatten = ((l ++ xs).map f).flatten ++ rest.drop (xs.length * k) := by
        rw [hk, Nat.zero_add]
        unfold spl
        rw [flat_take f k hf rest l l.length (Nat.le_refl _), List.take_length, flat_length f k hf]
        have e1 : l.length * k = (l.map f).flatten.length := by rw [flat_length f k hf]
        rw [e1, ← List.drop_drop, List.drop_left' rfl]
        simp
      rw [key]; exact this
    · rw [hz] at hz'; injection hz' with hz'; subst hz'
      rw [List.length_map] at h3 h4 ⊢
      have hl : (l ++ xs).length = l.length + xs.length := List.length_append
      have := Own.cells (f := f) (k := k) (l := l ++ xs) b' c' (zrep (c' - (l.length + xs.length)) z) (hsig.none hb') (by omega) h5 (by rw [zrep_len, hzk, hl])
      rw [hl] at this
      refine hK _ _ _ (SLe_drop hsig b') ?_
      have key : ((((l.map f).flatten ++ rest).drop 0).take (l.length * E.size) ++ (xs.map f).flatten ++ zrep (c' - (l.length + xs.length)) z) = ((l ++ xs).map f).flatten ++ zrep (c' - (l.length + xs.length)) z := by
        rw [hk, List.drop_zero, flat_take f k hf rest l l.length (Nat.le_refl _), List.take_length]
        simp
      rw [key]; exact this
end Go.HL
