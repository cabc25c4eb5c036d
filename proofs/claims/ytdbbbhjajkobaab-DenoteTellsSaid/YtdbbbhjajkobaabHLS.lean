/- HL, part S: lists that grow; what loops keep. -/
import Derived.Test.YtdbbbhjajkobaabHLP
set_option linter.unusedVariables false
set_option linter.unusedSimpArgs false
namespace Go.HL
open Go.RowKit
variable {P : Program} {σ : Store}

/-! ### Maps -/
def foundV (s : ByteArray) (es : List (ByteArray × Value)) (z : D) : D := match mfind s es with
  | some v => .lit v
  | none => z
def lookC (P : Program) (T : TI) (z : D) (s : ByteArray) (ok : Bool) (o : Option HObj) (K : D → Prop) : Prop := match o with
  | some (.hmap es) => T.kk.mapKey P = true ∧ K (if ok then .tup [foundV s es z, .bool (mfind s es).isSome] else foundV s es z)
  | _ => False
@[simp] theorem lookC_hmap (T : TI) (z : D) (s : ByteArray) (ok : Bool) (es : List (ByteArray × Value)) (K : D → Prop) : lookC P T z s ok (some (.hmap es)) K = (T.kk.mapKey P = true ∧ K (if ok then .tup [foundV s es z, .bool (mfind s es).isSome] else foundV s es z)) := (rfl)
@[simp] theorem hlookup_some (T : TI) (k : KK) (sz by' : Nat) (z : D) (fl : List (Nat × Nat × Bool)) (r : Nat) (s : ByteArray) (ok : Bool) (σ : Store) (K : D → Prop) : hlookup P T ⟨k, sz, by', some [z], fl⟩ (.lit (.map (some r))) (.lit (.string s)) ok σ K = lookC P T z s ok (σ r) K := by
  cases h : σ r with
  | none => simp only [hlookup, entriesOf, lookC, foundV, h]
  | some o => cases o <;> simp only [hlookup, entriesOf, lookC, foundV, h] <;> rfl
@[simp] theorem hlookup_none (T : TI) (k : KK) (sz by' : Nat) (z : D) (fl : List (Nat × Nat × Bool)) (s : ByteArray) (ok : Bool) (σ : Store) (K : D → Prop) : hlookup P T ⟨k, sz, by', some [z], fl⟩ (.lit (.map none)) (.lit (.string s)) ok σ K = (T.kk.mapKey P = true ∧ K (if ok then .tup [z, .bool false] else z)) := (rfl)
def updC (P : Program) (T : TI) (r : Nat) (s : ByteArray) (v : Value) (σ : Store) (o : Option HObj) (K : Store → Prop) : Prop := match o with
  | some (.hmap es) => T.kk.mapKey P = true ∧ K (σ.set r (.hmap (mput s v es)))
  | _ => False
@[simp] theorem updC_hmap (T : TI) (r : Nat) (s : ByteArray) (v : Value) (σ : Store) (es : List (ByteArray × Value)) (K : Store → Prop) : updC P T r s v σ (some (.hmap es)) K = (T.kk.mapKey P = true ∧ K (σ.set r (.hmap (mput s v es)))) := (rfl)
@[simp] theorem hmapUpdate_some (T : TI) (r : Nat) (s : ByteArray) (v : Value) (σ : Store) (K : Store → Prop) : hmapUpdate P T (.lit (.map (some r))) (.lit (.string s)) (.lit v) σ K = updC P T r s v σ (σ r) K := by
  cases h : σ r with
  | none => simp only [hmapUpdate, updC, h]
  | some o => cases o <;> simp only [hmapUpdate, updC, h]
def lenC (T : TI) (o : Option HObj) (K : D → Prop) : Prop := match o with
  | some (.hmap es) => (match T.kk with | .map _ _ => True | _ => False) ∧ K (.int .i64 es.length)
  | _ => False
@[simp] theorem lenC_hmap (T : TI) (es : List (ByteArray × Value)) (K : D → Prop) : lenC T (some (.hmap es)) K = ((match T.kk with | .map _ _ => True | _ => False) ∧ K (.int .i64 es.length)) := (rfl)
@[simp] theorem hlen_map (T : TI) (r : Nat) (σ : Store) (K : D → Prop) : hlen T (.lit (.map (some r))) σ K = lenC T (σ r) K := by
  cases h : σ r with
  | none => simp only [hlen, entriesOf, lenC, h]
  | some o => cases o <;> simp only [hlen, entriesOf, lenC, h] <;> rfl
@[simp] theorem hlen_mapnil (T : TI) (σ : Store) (K : D → Prop) : hlen T (.lit (.map none)) σ K = ((match T.kk with | .map _ _ => True | _ => False) ∧ K (.int .i64 0)) := (rfl)

/-- So up to a place. -/
def Upto (p : Nat → Bool) (i : Nat) : Prop := ∀ j, j < i → p j = true
theorem Upto.zero (p : Nat → Bool) : Upto p 0 := fun j h => by omega
theorem Upto.succ {p : Nat → Bool} {i : Nat} (h : Upto p i) (hp : p i = true) : Upto p (i + 1) := fun j hj => by
  by_cases e : j = i
  · subst e; exact hp
  · exact h j (by omega)
theorem next {R : Nat → Prop} {i n N : Nat} (hi : i + n = N) (h1 : i < N) (h2 : N ≤ 9223372036854775807) (h : R (i + 1)) : ∃ m, m < n ∧ ∃ i', i' + m = N ∧ IntKind.i64.wrap (↑i + 1) = ↑i' ∧ R i' :=
  ⟨n - 1, by omega, i + 1, by omega, by rw [wrap_i64] <;> omega, h⟩
/-- So of all of a list's up to a place. -/
def Front {α : Type} (p : α → Bool) (l : List α) (i : Nat) : Prop := (l.take i).all p = true
theorem Front.zero {α : Type} (p : α → Bool) (l : List α) : Front p l 0 := by simp [Front]
theorem take_next {α : Type} {l : List α} {i : Nat} {x : α} (hx : l[i]? = some x) : l.take (i + 1) = l.take i ++ [x] := by rw [List.take_add_one, hx]; rfl
theorem Front.succ {α : Type} {p : α → Bool} {l : List α} {i : Nat} {x : α} (h : Front p l i) (hx : l[i]? = some x) (hp : p x = true) : Front p l (i + 1) := by
  unfold Front at h ⊢
  rw [take_next hx, List.all_append, h]
  simp [hp]
theorem Front.all {α : Type} {p : α → Bool} {l : List α} {i : Nat} (h : Front p l i) (hi : l.length ≤ i) : l.all p = true := by
  unfold Front at h; rwa [List.take_of_length_le hi] at h
theorem all_no {α : Type} {p : α → Bool} {l : List α} {i : Nat} {x : α} (hx : l[i]? = some x) (hp : p x = false) : l.all p = false := by
  rw [List.all_eq_false]; exact ⟨x, List.mem_of_getElem? hx, by simp [hp]⟩

/-- A list that may grow: its word, and the store. -/
inductive Gr (k : Nat) (σ : Store) : List (List D) → Tok → Store → Prop
  | nil : Gr k σ [] .nil σ
  | full (es : List (List D)) : Gr k σ es .full σ
  | own (es : List (List D)) (b c : Nat) (hb : σ b = none) : Gr k σ es (.own b c k) (σ.set b (.spare es.length c k))
theorem Gr.le {k : Nat} {es : List (List D)} {tok : Tok} {s : Store} (h : Gr k σ es tok s) : SLe σ s := by
  cases h with
  | nil => exact SLe.refl σ
  | full _ => exact SLe.refl σ
  | own _ b c hb => exact (SLe.refl σ).set hb _
def HObj.live : HObj → Bool
  | .spare _ _ _ => false
  | _ => true
/-- What stands written stays, but for lists' spare room. -/
def Keep (s s' : Store) : Prop := ∀ x o, o.live = true → s x = some o → s' x = some o
theorem Keep.set {s : Store} {b : Nat} (hb : s b = none ∨ ∃ n c k, s b = some (.spare n c k)) (o : HObj) : Keep s (s.set b o) := by
  intro x o' hl h
  by_cases e : x = b
  · subst e
    rcases hb with hb | ⟨n, c, k, hb⟩
    · rw [hb] at h; cases h
    · rw [hb] at h; injection h with h; subst h; cases hl
  · rw [Store.set_ne _ _ _ _ e]; exact h
theorem Keep.refl (s : Store) : Keep s s := fun _ _ _ h => h
theorem Keep.trans {a b c : Store} (h : Keep a b) (h' : Keep b c) : Keep a c := fun x o l e => h' x o l (h x o l e)
theorem SLe.keep {a b : Store} (h : SLe a b) : Keep a b := fun x o _ e => h x o e
theorem Keep.cells {s s' : Store} (h : Keep s s') {b : Nat} {ds : List D} (e : s b = some (.cells ds)) : s' b = some (.cells ds) := h b _ rfl e
theorem Gr.append {k : Nat} {es : List (List D)} {tok : Tok} {s s2 : Store} (h : Gr k σ es tok s) (hs : SLe s s2) {E : TI} (hk : E.size = k) (xs : List (List D)) (h1 : (es.length + xs.length) * E.bytes ≤ 140737488355328) (h2 : es.length + xs.length ≤ 9223372036854775807)
    {K : D → Store → Prop} (hK : ∀ tok' s' s3, SLe s3 s' → Keep s2 s' → Gr k σ (es ++ xs) tok' s3 → K (.list (es ++ xs) tok') s') : appA false E xs (.list es tok) s2 K := by
  have hsig : SLe σ s2 := h.le.trans hs
  cases h with
  | nil =>
    rw [appA_nil]
    refine ⟨⟨h1, h2⟩, fun e => ?_, fun e b c hb hc => ?_⟩
    · subst e; exact hK _ _ _ hs (Keep.refl _) .nil
    · have := Gr.own (σ := σ) (k := k) ([] ++ xs) b c (hsig.none hb)
      rw [hk]
      refine hK _ _ _ ?_ ?_ this
      · simp only [List.length_append]
        exact SLe_drop hsig b
      · exact Keep.set (.inl hb) _
  | full _ =>
    rw [appA_full]
    refine ⟨⟨h1, h2⟩, fun e => ?_, fun e b c hb hc => ?_⟩
    · subst e
      have := hK .full s2 σ hs (Keep.refl _)
      simp only [List.append_nil] at this
      exact this (.full es)
    · have := Gr.own (σ := σ) (k := k) (es ++ xs) b c (hsig.none hb)
      rw [hk]
      refine hK _ _ _ ?_ ?_ this
      · simp only [List.length_append]
        exact SLe_drop hsig b
      · exact Keep.set (.inl hb) _
  | own _ b c hb =>
    rw [appA_own]
    refine ⟨⟨h1, h2⟩, ⟨hs _ _ (by simp), hk.symm⟩, fun e => ?_, fun e b' c' hb' hc' => ?_⟩
    · have := Gr.own (σ := σ) (k := k) (es ++ xs) b c hb
      refine hK _ _ _ ?_ ?_ this
      · simp only [List.length_append]
        exact SLe_drop hsig b
      · exact Keep.set (.inr ⟨es.length, c, k, hs _ _ (by simp)⟩) _
    · have := Gr.own (σ := σ) (k := k) (es ++ xs) b' c' (hsig.none hb')
      refine hK _ _ _ ?_ ?_ this
      · simp only [List.length_append]
        exact SLe_drop hsig b'
      · exact Keep.set (.inl hb') _
theorem Gr.appendT {α : Type} {f : α → List D} {k : Nat} {l : List α} {tok : Tok} {s s2 : Store} (h : Gr k σ (l.map f) tok s) (hs : SLe s s2) (xs : List α) {ds : List (List D)} {E : TI} {K : D → Store → Prop} (hds : ds = xs.map f) (hk : E.size = k)
    (h1 : (l.length + xs.length) * E.bytes ≤ 140737488355328) (h2 : l.length + xs.length ≤ 9223372036854775807)
    (hK : ∀ out tok' s' s3, out = l ++ xs → SLe s3 s' → Keep s2 s' → Gr k σ (out.map f) tok' s3 → K (.list (out.map f) tok') s') : appA false E ds (.list (l.map f) tok) s2 K := by
  subst hds
  refine h.append hs hk (xs.map f) (by simpa using h1) (by simpa using h2) ?_
  intro tok' s' s3 g1 g2 g3
  rw [← List.map_append] at g3 ⊢
  exact hK _ _ _ _ rfl g1 g2 g3
/-- A block that is handed over, told as a list. -/
theorem HCalls.frozenArg {f : FuncId} {d d' : D} {ds : List D} {s s' : Store} {Q : D → Store → Prop} (hs : SLe s' s) (hf : Frz s' s d d') (h : HCalls P f (d' :: ds) s' Q) : HCalls P f (d :: ds) s Q := by
  intro w0 M w vs hsim hl hd
  obtain ⟨M', hM, hS, hD⟩ := hf.goes hsim hs (hd 0 d rfl)
  refine (h w0 M' w vs hS (by simpa using hl) (fun i x hx => ?_)).mono ?_
  · cases i with
    | zero => simp at hx; subst hx; exact hD
    | succ i => exact (hd (i + 1) x (by simpa using hx)).mono hM
  · rintro e w' ⟨v, M'', d, σ', r1, r2, r3⟩
    exact ⟨v, M'', d, σ', r1, hM.trans r2, r3⟩
theorem SLe.put {s s' : Store} (h : SLe s s') {b : Nat} (hb : s b = Option.none) (o : HObj) : SLe s (s'.set b o) := by
  intro x o' e
  by_cases hx : x = b
  · subst hx; rw [hb] at e; cases e
  · rw [Store.set_ne _ _ _ _ hx]; exact h x o' e
theorem Gr.off {k : Nat} {es : List (List D)} {tok : Tok} {s s2 : Store} (h : Gr k σ es tok s) (hs : SLe s s2) {b : Nat} (hb : σ b = none) {ds : List D} (e : s2 b = some (.cells ds)) : s b = none := by
  cases hx : s b with
  | none => rfl
  | some o =>
    have := hs b o hx
    rw [e] at this
    injection this with this
    subst this
    cases h with
    | nil => rw [hb] at hx; cases hx
    | full _ => rw [hb] at hx; cases hx
    | own _ b2 c hb2 =>
      by_cases hbb : b = b2
      · subst hbb; rw [Store.set_same] at hx; cases hx
      · rw [Store.set_ne _ _ _ _ hbb, hb] at hx; cases hx
@[simp] theorem hmake_eq (T : TI) (k : KK) (sz by' : Nat) (z : List D) (fl : List (Nat × Nat × Bool)) (n m : Int) (σ : Store) (K : D → Store → Prop) : hmake T ⟨k, sz, by', some z, fl⟩ (.lit (.int .i64 n)) (.lit (.int .i64 m)) σ K =
    ((n = m ∧ 0 ≤ n ∧ by' * n ≤ 140737488355328 ∧ n ≤ 9223372036854775807 ∧ z.length = sz) ∧ ∀ b, σ b = none → K (.lit (.slice (some ⟨b, 0, none⟩) n.toNat n.toNat)) (σ.set b (.cells (zrep n.toNat z)))) := (rfl)
/-- What hands back a list, and leaves the store. -/
def RetL (P : Program) (f : FuncId) (ds : List D) (es : List (List D)) : Prop := ∀ (σ : Store) (Q : D → Store → Prop), (∀ tok, Q (.list es tok) σ) → HCalls P f ds σ Q
theorem RetL.of {f : FuncId} {ds : List D} {es : List (List D)} (h : ∀ σ, HCalls P f ds σ fun d s => (∃ tok, d = .list es tok) ∧ s = σ) : RetL P f ds es := fun σ Q hq => (h σ).mono fun d s ⟨⟨tok, h1⟩, h2⟩ => by subst h1 h2; exact hq tok
/-- What hands back a list and more, and leaves the store. -/
def RetLs (P : Program) (f : FuncId) (ds : List D) (es : List (List D)) (more : List D) : Prop := ∀ (σ : Store) (Q : D → Store → Prop), (∀ tok, Q (.tup (.list es tok :: more)) σ) → HCalls P f ds σ Q
theorem RetLs.of {f : FuncId} {ds : List D} {es : List (List D)} {more : List D} (h : ∀ σ, HCalls P f ds σ fun d s => (∃ tok, d = .tup (.list es tok :: more)) ∧ s = σ) : RetLs P f ds es more := fun σ Q hq => (h σ).mono fun d s ⟨⟨tok, h1⟩, h2⟩ => by subst h1 h2; exact hq tok

/-! ### What is owned -/
theorem Own.hlen {α : Type} {f : α → List D} {k : Nat} {s : Store} {l : List α} {d : D} (h : Own f k σ l d s) (T : TI) (s' : Store) (K : D → Prop) : hlen T d s' K = (T.kk.isSlice = true ∧ K (.int .i64 l.length)) := by
  cases h with
  | nil h => subst h; rfl
  | cells b c rest => rfl
theorem Own.some {α : Type} {f : α → List D} {k : Nat} {s : Store} {l : List α} {d : D} (h : Own f k σ l d s) (hl : l ≠ []) : ∃ b c rest, d = .lit (.slice (Option.some ⟨b, 0, none⟩) l.length c) ∧ σ b = none ∧ l.length ≤ c ∧ c ≤ 9223372036854775807 ∧ rest.length = (c - l.length) * k ∧ s = σ.set b (.cells ((l.map f).flatten ++ rest)) := by
  cases h with
  | nil h => exact absurd h hl
  | cells b c rest h1 h2 h3 h4 => exact ⟨b, c, rest, rfl, h1, h2, h3, h4, rfl⟩
/-- The last one left off. -/
theorem Own.pop {α : Type} {f : α → List D} {k : Nat} (hf : ∀ a, (f a).length = k) {l : List α} {a : α} {b c : Nat} {rest : List D} (h1 : σ b = none) (h2 : (l ++ [a]).length ≤ c) (h3 : c ≤ 9223372036854775807) (h4 : rest.length = (c - (l ++ [a]).length) * k) :
    Own f k σ l (.lit (.slice (Option.some ⟨b, 0, none⟩) l.length c)) (σ.set b (.cells (((l ++ [a]).map f).flatten ++ rest))) := by
  have e : ((l ++ [a]).map f).flatten ++ rest = (l.map f).flatten ++ (f a ++ rest) := by simp
  rw [e]
  simp only [List.length_append, List.length_cons, List.length_nil] at h2 h4
  refine .cells b c (f a ++ rest) h1 (by omega) h3 ?_
  rw [List.length_append, hf, h4]
  have : c - l.length = (c - (l.length + (0 + 1))) + 1 := by omega
  rw [this, Nat.succ_mul]; omega

/-! ### No word on appending -/
inductive Wk : D → D → Prop
  | refl (d : D) : Wk d d
  | list (es : List (List D)) (tok : Tok) : Wk (.list es tok) (.list es .ro)
  | deep (es es' : List (List D)) (tok : Tok) (hl : es.length = es'.length) (hk : ∀ (i : Nat) (e e' : List D), es[i]? = some e → es'[i]? = some e' → e.length = e'.length)
      (h2 : ∀ (i : Nat) (e e' : List D) (j : Nat) (d d' : D), es[i]? = some e → es'[i]? = some e' → e[j]? = some d → e'[j]? = some d' → Wk d d') : Wk (.list es tok) (.list es' .ro)
  | agg (ds ds' : List D) (h : ds.length = ds'.length) (h2 : ∀ (i : Nat) (d d' : D), ds[i]? = some d → ds'[i]? = some d' → Wk d d') : Wk (.agg ds) (.agg ds')
  | tup (ds ds' : List D) (h : ds.length = ds'.length) (h2 : ∀ (i : Nat) (d d' : D), ds[i]? = some d → ds'[i]? = some d' → Wk d d') : Wk (.tup ds) (.tup ds')
theorem Wk.goes {M : Mem} {d d' : D} (h : Wk d d') : ∀ {v : Value}, Den M v d → Den M v d' := by
  induction h with
  | refl d => intro v hv; exact hv
  | list es tok =>
    intro v hv
    cases hv with
    | list a n c k b o _ _ cv hn hc hc2 ha hk hm hd ht => exact .list a n c k b o es .ro cv hn hc hc2 ha hk hm hd trivial
  | deep es es' tok hl hk h2 ih =>
    intro v hv
    cases hv with
    | list a n c k b o _ _ cv hn hc hc2 ha hk' hm hd ht =>
      have back : ∀ (i : Nat) (e' : List D), es'[i]? = some e' → ∃ e, es[i]? = some e ∧ e.length = e'.length := fun i e' he => by
        have hi : i < es.length := by have := (List.getElem?_eq_some_iff.1 he).1; omega
        exact ⟨es[i], List.getElem?_eq_getElem hi, hk i _ _ (List.getElem?_eq_getElem hi) he⟩
      refine .list a n c k b o es' .ro cv (hn.trans hl) hc hc2 ha (fun i e' he => ?_) hm (fun i e' j d' he hd' => ?_) trivial
      · obtain ⟨e, h1, h2⟩ := back i e' he
        rw [← h2]; exact hk' i e h1
      · obtain ⟨e, h1, h3⟩ := back i e' he
        have hj : j < e.length := by have := (List.getElem?_eq_some_iff.1 hd').1; omega
        exact ih i e e' j e[j] d' h1 he (List.getElem?_eq_getElem hj) hd' (hd i e j e[j] h1 (List.getElem?_eq_getElem hj))
  | agg ds ds' hl h2 ih =>
    intro v hv
    cases hv with
    | agg vs _ h0 h1 hd =>
      refine .agg vs ds' (h0.trans hl) h1 fun i d' hd' => ?_
      have hi : i < ds.length := by have := (List.getElem?_eq_some_iff.1 hd').1; omega
      exact ih i ds[i] d' (List.getElem?_eq_getElem hi) hd' (hd i _ (List.getElem?_eq_getElem hi))
  | tup ds ds' hl h2 ih =>
    intro v hv
    cases hv with
    | tup vs _ h0 hd =>
      refine .tup vs ds' (h0.trans hl) fun i d' hd' => ?_
      have hi : i < ds.length := by have := (List.getElem?_eq_some_iff.1 hd').1; omega
      exact ih i ds[i] d' (List.getElem?_eq_getElem hi) hd' (hd i _ (List.getElem?_eq_getElem hi))
theorem HCalls.weak {f : FuncId} {ds : List D} {Q : D → Store → Prop} (h : HCalls P f ds σ fun d s => ∃ d', Wk d d' ∧ Q d' s) : HCalls P f ds σ Q := by
  intro w0 M w vs hs hl hd
  refine (h w0 M w vs hs hl hd).mono ?_
  rintro e w' ⟨v, M', d, s, r1, r2, r3, r4, d', r5, r6⟩
  exact ⟨v, M', d', s, r1, r2, r3, r5.goes r4, r6⟩
theorem Ret.weak {f : FuncId} {ds : List D} {r : D} (h : ∀ σ, HCalls P f ds σ fun d s => Wk d r ∧ s = σ) : Ret P f ds r := by
  intro σ Q hq
  refine HCalls.weak ((h σ).mono ?_)
  rintro d s ⟨h1, rfl⟩
  exact ⟨r, h1, hq⟩
theorem Wk.two {a b a' b' : D} (h1 : Wk a a') (h2 : Wk b b') : Wk (.tup [a, b]) (.tup [a', b']) := by
  refine .tup _ _ rfl fun i d d' hd hd' => ?_
  match i with
  | 0 => simp at hd hd'; subst hd hd'; exact h1
  | 1 => simp at hd hd'; subst hd hd'; exact h2
  | n + 2 => simp at hd
theorem RetL.ro {f : FuncId} {ds : List D} {es : List (List D)} (h : RetL P f ds es) : Ret P f ds (.list es .ro) := Ret.weak fun σ => h σ (fun d s => Wk d (.list es .ro) ∧ s = σ) fun tok => ⟨.list es tok, rfl⟩

/-- Lists of the same things, told with words on appending or without. -/
theorem Wk.maps {α β : Type} (f : α → List D) (g : β → List D) (p : α → β) (l : List α) (tok : Tok) (hl : ∀ a, (f a).length = (g (p a)).length) (h : ∀ a (j : Nat) (d d' : D), (f a)[j]? = some d → (g (p a))[j]? = some d' → Wk d d') : Wk (.list (l.map f) tok) (.list ((l.map p).map g) .ro) := by
  refine .deep _ _ tok (by simp) (fun i e e' h1 h2 => ?_) (fun i e e' j d d' h1 h2 h3 h4 => ?_)
  · rw [List.getElem?_map] at h1
    rw [List.map_map, List.getElem?_map] at h2
    obtain ⟨a, ha, rfl⟩ := Option.map_eq_some_iff.1 h1
    rw [ha] at h2
    simp at h2; rw [← h2]; exact hl a
  · rw [List.getElem?_map] at h1
    rw [List.map_map, List.getElem?_map] at h2
    obtain ⟨a, ha, rfl⟩ := Option.map_eq_some_iff.1 h1
    rw [ha] at h2
    simp at h2
    rw [← h2] at h4
    exact h a j d d' h3 h4
end Go.HL
