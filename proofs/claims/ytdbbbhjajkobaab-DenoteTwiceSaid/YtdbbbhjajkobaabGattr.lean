/- Attributes: what the program's layer 3 does. -/
import Derived.Test.YtdbbbhjajkobaabGname
set_option linter.unusedVariables false
set_option linter.unusedSimpArgs false
set_option maxRecDepth 100000
namespace Go.HL
open Go.RowKit Go.Proofs

structure Attr where
  name : ByteArray
  value : ByteArray
  static : Bool
  deriving DecidableEq
def attrD (a : Attr) : List D := [.str a.name, .str a.value, .bool a.static]
theorem attrD_length (a : Attr) : (attrD a).length = 3 := rfl
@[simp] theorem attrD_take (a : Attr) : List.take 3 (attrD a) = attrD a := rfl
@[simp high] theorem flatA_length (l : List Attr) (rest : List D) : ((l.map attrD).flatten ++ rest).length = l.length * 3 + rest.length := by
  rw [List.length_append, flat_length attrD 3 attrD_length]
theorem attrD_def (a : Attr) : attrD a = [.str a.name, .str a.value, .bool a.static] := rfl

theorem c_at1 (a : Attr) (nm : ByteArray) (b : Nat) (σ : Store) (hb : σ b = some (.cells [.str nm])) : HCalls Try.prog 152 [.agg (attrD a), .ptr b 0] σ fun d s => d = .bool (decide (a.name = nm)) ∧ s = σ := by
  refine HCalls.start mixed false _ _ (fn := Try.f152) (by kernel_rfl) rfl (by kernel_rfl) rfl (by kernel_rfl) (by kernel_rfl) ?_
  simp (maxSteps := 2000000) +contextual [hb, attrD, -decide_eq_true_eq, -decide_eq_false_iff_not]
theorem c_some1 (a : Attr) (st : Bool) (b : Nat) (σ : Store) (hb : σ b = some (.cells [.bool st])) : HCalls Try.prog 160 [.agg (attrD a), .ptr b 0] σ fun d s => d = .bool (!decide (a.static = st)) ∧ s = σ := by
  refine HCalls.start mixed false _ _ (fn := Try.f160) (by kernel_rfl) rfl (by kernel_rfl) rfl (by kernel_rfl) (by kernel_rfl) ?_
  simp (maxSteps := 2000000) +contextual [hb, attrD, -decide_eq_true_eq, -decide_eq_false_iff_not]

theorem c_idx (l : List Attr) (d : D) (g : FuncId) (caps : List Value) (p : Attr → Bool) (σ : Store) (hv : View attrD 3 σ l d) (ent : entersB Try.prog g = true) (hl : l.length ≤ 9223372036854775807)
    (hf : ∀ a ∈ l, HCalls Try.prog g (.agg (attrD a) :: caps.map .lit) σ fun d s => d = .bool (p a) ∧ s = σ) :
    HCalls Try.prog 151 [d, .lit (.func (.func g) #[] ⟨caps⟩)] σ fun d s => d = .int .i64 (idx p l) ∧ s = σ := by
  refine HCalls.start mixed false _ _ (fn := Try.f151) (by kernel_rfl) rfl (by kernel_rfl) rfl (by kernel_rfl) (by kernel_rfl) ?_
  have fin : ∀ (n i : Nat) (x : Attr), i + n = l.length → (∀ j, j < i → ∀ x, l[j]? = some x → p x = false) → l[i]? = some x →
      (p x = false → ∃ m, m < n ∧ ∃ i', i' + m = l.length ∧ IntKind.i64.wrap (↑i + 1) = ↑i' ∧ ∀ j, j < i' → ∀ x, l[j]? = some x → p x = false) ∧ (p x = true → (i : Int) = idx p l) := by
    intro n i x hi hno hx
    have hlt := (List.getElem?_eq_some_iff.1 hx).1
    refine ⟨fun hp => ⟨n - 1, by omega, i + 1, by omega, by rw [wrap_i64] <;> omega, fun j hj y hy => ?_⟩, fun hp => (idx_at hx hp hno).symm⟩
    by_cases hji : j = i
    · subst hji; rw [hx] at hy; injection hy with hy; subst hy; exact hp
    · exact hno j (by omega) y hy
  rcases hv with ⟨tok⟩ | ⟨b, c, rest, he⟩
  · simp (maxSteps := 2000000) +contextual [-decide_eq_true_eq, -decide_eq_false_iff_not]
    refine hloop_fix (fun n e => ∃ i : Nat, i + n = l.length ∧ e 0 = .list (l.map attrD) tok ∧ e 1 = .lit (.func (.func g) #[] ⟨caps⟩) ∧ e 7 = .int .i64 l.length ∧ e 8 = .int .i64 i ∧ ∀ j, j < i → ∀ x, l[j]? = some x → p x = false) l.length ?_ ?_
    · exact ⟨0, by simp⟩
    · rintro n e ⟨i, hi, e0, e1, e7, e8, hno⟩
      simp (maxSteps := 2000000) +contextual [e0, e1, e7, e8, ent, attrD_length, -decide_eq_true_eq, -decide_eq_false_iff_not]
      refine ⟨fun h4 => ⟨by simpa using h4, fun x hx => (hf x (List.mem_of_getElem? hx)).mono ?_⟩, fun h4 => ?_⟩
      · rintro d s ⟨rfl, rfl⟩
        simp (maxSteps := 2000000) +contextual [e0, e1, e7, e8, -decide_eq_true_eq, -decide_eq_false_iff_not]
        exact ⟨(fin n i x hi hno hx).2, (fin n i x hi hno hx).1⟩
      · have h4 := dec_f h4
        rw [idx_none fun j hj x hx => hno j (by omega) x hx]
  · simp (maxSteps := 2000000) +contextual [-decide_eq_true_eq, -decide_eq_false_iff_not]
    refine hloop_fix (fun n e => ∃ i : Nat, i + n = l.length ∧ e 0 = .lit (.slice (some ⟨b, 0, none⟩) l.length c) ∧ e 1 = .lit (.func (.func g) #[] ⟨caps⟩) ∧ e 7 = .int .i64 l.length ∧ e 8 = .int .i64 i ∧ ∀ j, j < i → ∀ x, l[j]? = some x → p x = false) l.length ?_ ?_
    · exact ⟨0, by simp⟩
    · rintro n e ⟨i, hi, e0, e1, e7, e8, hno⟩
      by_cases h4 : i < l.length
      · have hx : l[i]? = some l[i] := List.getElem?_eq_getElem h4
        simp (maxSteps := 2000000) +contextual [e0, e1, e7, e8, ent, he, h4, flat_part attrD 3 attrD_length rest l i _ hx, -decide_eq_true_eq, -decide_eq_false_iff_not]
        refine ⟨by omega, (hf _ (List.getElem_mem h4)).mono ?_⟩
        rintro d s ⟨rfl, rfl⟩
        simp (maxSteps := 2000000) +contextual [e0, e1, e7, e8, -decide_eq_true_eq, -decide_eq_false_iff_not]
        exact ⟨(fin n i _ hi hno hx).2, (fin n i _ hi hno hx).1⟩
      · simp (maxSteps := 2000000) +contextual [e0, e7, e8, h4, -decide_eq_true_eq, -decide_eq_false_iff_not]
        rw [idx_none fun j hj x hx => hno j (by omega) x hx]

theorem View.mono {α : Type} {f : α → List D} {k : Nat} {σ σ' : Store} {l : List α} {d : D} (h : View f k σ l d) (hs : SLe σ σ') : View f k σ' l d := by
  cases h with
  | list tok => exact .list tok
  | cells b c rest e => exact .cells b c rest (hs _ _ e)
def atA (l : List Attr) (nm : ByteArray) : Int := idx (fun a => decide (a.name = nm)) l
theorem c_at (l : List Attr) (d : D) (nm : ByteArray) (σ : Store) (hv : View attrD 3 σ l d) (hl : l.length ≤ 9223372036854775807) :
    HCalls Try.prog 132 [d, .str nm] σ fun d s => d = .int .i64 (atA l nm) ∧ s = σ := by
  refine HCalls.start mixed false _ _ (fn := Try.f132) (by kernel_rfl) rfl (by kernel_rfl) rfl (by kernel_rfl) (by kernel_rfl) ?_
  simp (maxSteps := 2000000) +contextual [litsOf, litOf, -decide_eq_true_eq, -decide_eq_false_iff_not]
  intro b hb
  refine (c_idx l d _ _ (fun a => decide (a.name = nm)) _ (hv.mono (SLe.set (SLe.refl σ) hb _)) (by simp) hl (fun a _ => c_at1 a nm b _ (by simp))).mono ?_
  rintro d s ⟨rfl, rfl⟩
  simp (maxSteps := 2000000) +contextual [hb, atA, -decide_eq_true_eq, -decide_eq_false_iff_not]
def FitsA (l : List Attr) : Prop := l.length ≤ 1048576 ∧ ∀ a ∈ l, a.name.size ≤ 1048576 ∧ a.value.size ≤ 1048576
def mayAttrs (l : List Attr) : Bool := decide (l.length ≤ 8) && (List.range l.length).all fun i => match l[i]? with
  | some a => mayName a.name && mayText a.value && !decide (atA l a.name < i)
  | none => true
theorem c_mayA (l : List Attr) (tok : Tok) (σ : Store) (hl : FitsA l) : HCalls Try.prog 86 [.list (l.map attrD) tok] σ fun d s => d = .bool (mayAttrs l) ∧ s = σ := by
  refine HCalls.start mixed false _ _ (fn := Try.f86) (by kernel_rfl) rfl (by kernel_rfl) rfl (by kernel_rfl) (by kernel_rfl) ?_
  simp (maxSteps := 2000000) +contextual [-decide_eq_true_eq, -decide_eq_false_iff_not]
  let ok : Nat → Attr → Bool := fun i a => mayName a.name && mayText a.value && !decide (atA l a.name < i)
  refine hloop_fix (fun n e => ∃ i : Nat, i + n = l.length ∧ e 0 = .list (l.map attrD) tok ∧ e 5 = .list (l.map attrD) tok ∧ e 6 = .int .i64 l.length ∧ e 7 = .int .i64 i ∧ ∀ j, j < i → ∀ x, l[j]? = some x → ok j x = true) l.length ?_ ?_
  · exact ⟨0, by simp⟩
  · rintro n e ⟨i, hi, e0, e5, e6, e7, hok⟩
    simp (maxSteps := 2000000) +contextual [e0, e5, e6, e7, attrD_length, -decide_eq_true_eq, -decide_eq_false_iff_not]
    refine ⟨fun h4 => ⟨by simpa using h4, fun x hx b hb => ?_⟩, fun h4 => ?_⟩
    · simp (maxSteps := 2000000) +contextual [attrD_def, -decide_eq_true_eq, -decide_eq_false_iff_not]
      refine c_may _ _ _ ?_
      have hf := hl.2 x (List.mem_of_getElem? hx)
      have hl1 := hl.1
      have h4 := dec_t h4
      have no : ok i x = false → mayAttrs l = false := fun h => by
        simp only [mayAttrs, Bool.and_eq_false_iff]
        right
        rw [List.all_eq_false]
        exact ⟨i, by simpa using h4, by rw [hx]; simpa [ok] using h⟩
      have go : ok i x = true → ∃ m, m < n ∧ ∃ i', i' + m = l.length ∧ IntKind.i64.wrap (↑i + 1) = ↑i' ∧ ∀ j, j < i' → ∀ x, l[j]? = some x → ok j x = true := fun h => by
        refine ⟨n - 1, by omega, i + 1, by omega, by rw [wrap_i64] <;> omega, fun j hj y hy => ?_⟩
        by_cases hji : j = i
        · subst hji; rw [hx] at hy; injection hy with hy; subst hy; exact h
        · exact hok j (by omega) y hy
      simp (maxSteps := 2000000) +contextual [hb, e0, e5, e6, e7, -decide_eq_true_eq, -decide_eq_false_iff_not]
      refine ⟨fun h5 => ?_, fun h5 => ?_⟩
      · refine c_text _ (by omega) _ _ ?_
        simp (maxSteps := 2000000) +contextual [hb, h5, e0, e5, e6, e7, -decide_eq_true_eq, -decide_eq_false_iff_not]
        refine ⟨fun h6 => ?_, fun h6 => ?_⟩
        · refine (c_at l _ x.name _ (.list tok) (by omega)).mono ?_
          rintro d s ⟨rfl, rfl⟩
          simp (maxSteps := 2000000) +contextual [hb, h5, h6, e0, e5, e6, e7, -decide_eq_true_eq, -decide_eq_false_iff_not]
          refine ⟨fun h7 => ?_, fun h7 => ?_⟩
          · exact no (by simp [ok, h7])
          · exact go (by simp [ok, h5, h6, h7])
        · exact no (by simp [ok, h6])
      · exact no (by simp [ok, h5])
    · have h4 := dec_f h4
      have : ((List.range l.length).all fun i => match l[i]? with
          | some a => mayName a.name && mayText a.value && !decide (atA l a.name < i)
          | none => true) = true := by
        rw [List.all_eq_true]
        intro j hj
        have hj : j < l.length := by simpa using hj
        have := hok j (by omega) _ (List.getElem?_eq_getElem hj)
        simpa [List.getElem?_eq_getElem hj, ok] using this
      simp only [mayAttrs, this, Bool.and_true]
      simp
      omega

theorem c_clone (l : List Attr) (tok : Tok) (σ : Store) (hl : l.length ≤ 1048576) : HCalls Try.prog 88 [.list (l.map attrD) tok] σ fun d s => Own attrD 3 σ l d s := by
  refine HCalls.start mixed true _ _ (fn := Try.f88) (by kernel_rfl) rfl (by kernel_rfl) rfl (by kernel_rfl) (by kernel_rfl) ?_
  simp (maxSteps := 2000000) +contextual [attrD_length, -decide_eq_true_eq, -decide_eq_false_iff_not]
  refine ⟨fun _ b hb => ⟨⟨by omega, by omega⟩, fun h0 => ?_, fun h0 b' c' hne hb' h1 h2 => ?_⟩, fun h0 => ?_⟩
  · subst h0
    exact ⟨_, SLe.refl _, .cells b 0 [] hb (by simp) (by omega) (by simp)⟩
  · exact ⟨_, SLe_drop (SLe.set (SLe.refl σ) hb _) _, .cells b' c' _ hb' h1 h2 (by rw [zrep_len]; rfl)⟩
  · exact ⟨σ, SLe.refl σ, .nil rfl⟩

theorem c_delete (l : List Attr) (d : D) (g : FuncId) (caps : List Value) (p : Attr → Bool) (σ s0 : Store) (ho : Own attrD 3 σ l d s0) (ent : entersB Try.prog g = true) (hl : l.length ≤ 1048576)
    (hf : ∀ a ∈ l, ∀ s, SLe σ s → HCalls Try.prog g (.agg (attrD a) :: caps.map .lit) s fun d s' => d = .bool (p a) ∧ s' = s) :
    HCalls Try.prog 159 [d, .lit (.func (.func g) #[] ⟨caps⟩)] s0 fun d s => Own attrD 3 σ (l.filter fun a => !p a) d s := by
  refine HCalls.start mixed true _ _ (fn := Try.f159) (by kernel_rfl) rfl (by kernel_rfl) rfl (by kernel_rfl) (by kernel_rfl) ?_
  simp (maxSteps := 2000000) +contextual [-decide_eq_true_eq, -decide_eq_false_iff_not]
  refine (c_idx l d g caps p s0 ho.view ent (by omega) fun a ha => hf a ha s0 ho.le).mono ?_
  rintro d' s' ⟨rfl, rfl⟩
  simp (maxSteps := 2000000) +contextual [-decide_eq_true_eq, -decide_eq_false_iff_not]
  refine ⟨fun h1 => ?_, fun h1 => ?_⟩
  · have h1 := dec_t h1
    have hno : l.filter (fun a => !p a) = l := by
      rcases idx_range p l with h | h
      · rw [List.filter_eq_self]
        intro a ha
        have := h.2
        rw [List.any_eq_false] at this
        simpa using this a ha
      · omega
    rw [hno]
    exact ⟨s', SLe.refl _, ho⟩
  · have h1 := dec_f h1
    have hany : l.any p = true := by
      rcases idx_range p l with h | h
      · exact absurd h.1 h1
      · exact h.2.2
    cases ho with
    | nil h => subst h; simp at hany
    | cells b c rest hb hc hm hr =>
      have hfi : l.findIdx p < l.length := List.findIdx_lt_length_of_exists (by simpa using hany)
      have hidx : idx p l = (l.findIdx p : Int) := by simp [idx, hany]
      refine hloop_intro (fun n e s => ∃ (i j : Nat) (cur : List Attr), j + n = l.length ∧ i < j ∧ e 0 = .lit (.slice (some ⟨b, 0, none⟩) l.length c) ∧ e 1 = .lit (.func (.func g) #[] ⟨caps⟩) ∧ e 5 = .int .i64 i ∧ e 6 = .int .i64 j ∧
        s = σ.set b (.cells ((cur.map attrD).flatten ++ rest)) ∧ cur.length = l.length ∧ cur.drop j = l.drop j ∧ cur.take i = (l.take j).filter fun a => !p a) (l.length - (l.findIdx p + 1)) ?_ ?_
      · refine ⟨l.findIdx p, l.findIdx p + 1, l, by omega, by omega, ?_⟩
        simp (maxSteps := 2000000) +contextual [hidx, -decide_eq_true_eq, -decide_eq_false_iff_not]
        refine ⟨by rw [wrap_i64] <;> omega, ?_⟩
        rw [List.take_add_one, List.filter_append, List.getElem?_eq_getElem hfi]
        have hp : p l[l.findIdx p] = true := List.findIdx_getElem
        have h2 : (l.take (l.findIdx p)).filter (fun a => !p a) = l.take (l.findIdx p) := by
          rw [List.filter_eq_self]
          intro a ha
          obtain ⟨q, hq, rfl⟩ := List.mem_take_iff_getElem.1 ha
          have := List.not_of_lt_findIdx (p := p) (xs := l) (i := q) (by omega)
          simpa using this
        simp [h2, hp]
      · rintro n e s ⟨i, j, cur, hj, hij, e0, e1, e5, e6, rfl, hcl, hdr, htk⟩
        by_cases h4 : j < l.length
        · have hx : cur[j]? = some (l[j]'h4) := by
            have : (cur.drop j)[0]? = (l.drop j)[0]? := by rw [hdr]
            simpa [List.getElem?_drop, h4] using this
          simp (maxSteps := 2000000) +contextual [e0, e1, e5, e6, ent, hb, h4, hcl, flat_part attrD 3 attrD_length rest cur j _ hx, attrD_def, -decide_eq_true_eq, -decide_eq_false_iff_not]
          refine ⟨by omega, fun b2 hne hb2 => ?_⟩
          rw [← attrD_def]
          refine (hf _ (List.getElem_mem h4) _ ?_).mono ?_
          · exact ((SLe.refl σ).set hb _).set (by simp [hne, hb2]) _
          rintro d' s' ⟨rfl, rfl⟩
          have hil : i < cur.length := by omega
          have dj : l.drop j = l[j] :: l.drop (j + 1) := List.drop_eq_getElem_cons h4
          have tj : l.take (j + 1) = l.take j ++ [l[j]] := by rw [List.take_add_one, List.getElem?_eq_getElem h4]; rfl
          simp (maxSteps := 2000000) +contextual [e0, e1, e5, e6, hb, hb2, hne, attrD_length, -decide_eq_true_eq, -decide_eq_false_iff_not]
          refine ⟨fun h5 => ⟨by omega, by omega, n - 1, by omega, _, SLe_over hb2 hne _ _ _, i + 1, j + 1, by omega, by omega, by rw [wrap_i64] <;> omega, by rw [wrap_i64] <;> omega, cur.set i l[j], ?_, by simp [hcl], ?_, ?_⟩, fun h5 => ⟨n - 1, by omega, _, SLe_drop2 hb2 hne _ _, i, j + 1, by omega, by omega, rfl, by rw [wrap_i64] <;> omega, cur, rfl, hcl, ?_, ?_⟩⟩
          · rw [flat_spl attrD 3 attrD_length rest cur i _ hil]
          · rw [List.drop_set_of_lt (by omega), ← List.drop_drop, hdr, List.drop_drop]
          · rw [tj, List.filter_append, ← htk, List.take_add_one]
            simp [hil, h5, List.take_set_of_le]
          · rw [← List.drop_drop, hdr, List.drop_drop]
          · rw [tj, List.filter_append, ← htk]
            simp [h5]
        · have hlen : cur.length = l.length := hcl
          have hjl : j = l.length := by omega
          subst hjl
          rw [List.take_length] at htk
          have hi2 : (l.filter fun a => !p a).length = i := by rw [← htk]; simp; omega
          have key : ∀ A : HObj, A = .cells (((l.filter fun a => !p a).map attrD).flatten ++ (zrep (l.length - i) [D.lit (Value.string { data := #[] }), D.lit (Value.string { data := #[] }), D.lit (Value.bool false)] ++ rest)) →
              ∃ s', SLe s' (σ.set b A) ∧ Own attrD 3 σ (l.filter fun a => !p a) (.lit (.slice (some ⟨b, 0, none⟩) i c)) s' := by
            rintro A rfl
            refine ⟨_, SLe.refl _, ?_⟩
            have := Own.cells (f := attrD) (k := 3) (l := l.filter fun a => !p a) b c (zrep (l.length - i) [D.lit (Value.string { data := #[] }), D.lit (Value.string { data := #[] }), D.lit (Value.bool false)] ++ rest) hb (by omega) hm (by rw [List.length_append, zrep_len, hr, hi2]; simp; omega)
            rw [hi2] at this
            exact this
          have tk : ((cur.map attrD).flatten ++ rest).take (i * 3) = ((l.filter fun a => !p a).map attrD).flatten := by rw [flat_take attrD 3 attrD_length rest cur i (by omega), htk]
          by_cases hli : l.length - i = 0
          · have hci : (if c = i then (⟨b, 0, none⟩ : Addr) else ⟨b, i * 3, none⟩) = ⟨b, if c = i then 0 else i * 3, none⟩ := by split <;> rfl
            simp (maxSteps := 2000000) +contextual [e0, e1, e5, e6, ent, hb, h4, hci, hli, -decide_eq_true_eq, -decide_eq_false_iff_not]
            refine ⟨by simpa using hc, ⟨by omega, hc⟩, by simpa using hc, by omega, key _ ?_⟩
            have h6 : i = cur.length := by omega
            rw [hli, zrep_zero, List.nil_append, ← htk, h6, List.take_length]
          · have hci : ¬ c = i := by omega
            simp (maxSteps := 2000000) +contextual [e0, e1, e5, e6, ent, hb, h4, hci, hli, -decide_eq_true_eq, -decide_eq_false_iff_not]
            refine ⟨by simpa using hc, ⟨by omega, hc⟩, by omega, by simpa using hc, by omega, key _ ?_⟩
            unfold spl
            rw [tk, zrep_len]
            have h7 : i * 3 + (l.length - i) * [D.lit (Value.string { data := #[] }), D.lit (Value.string { data := #[] }), D.lit (Value.bool false)].length = cur.length * 3 := by simp; omega
            rw [h7, flat_drop attrD 3 attrD_length rest cur cur.length (Nat.le_refl _)]
            simp

def someA (l : List Attr) (st : Bool) : List Attr := l.filter fun a => decide (a.static = st)
theorem c_some (l : List Attr) (tok : Tok) (st : Bool) (σ : Store) (hl : l.length ≤ 1048576) : HCalls Try.prog 143 [.list (l.map attrD) tok, .bool st] σ fun d s => Own attrD 3 σ (someA l st) d s := by
  refine HCalls.start mixed true _ _ (fn := Try.f143) (by kernel_rfl) rfl (by kernel_rfl) rfl (by kernel_rfl) (by kernel_rfl) ?_
  simp (maxSteps := 2000000) +contextual [-decide_eq_true_eq, -decide_eq_false_iff_not]
  intro b hb
  refine (c_clone l tok _ hl).mono ?_
  intro d s ho
  simp (maxSteps := 2000000) +contextual [hb, litsOf, litOf, -decide_eq_true_eq, -decide_eq_false_iff_not]
  refine (c_delete l d _ _ (fun a => !decide (a.static = st)) _ s ho (by simp) hl fun a ha s' hs' => c_some1 a st b s' (hs' _ _ (by simp))).mono ?_
  intro d' s' ho'
  simp (maxSteps := 2000000) +contextual [hb, -decide_eq_true_eq, -decide_eq_false_iff_not]
  obtain ⟨s2, h1, h2⟩ := ho'.drop ((SLe.refl σ).set hb _)
  refine ⟨s2, h1, ?_⟩
  simpa [someA] using h2
theorem c_sameA (l m : List Attr) (t1 t2 : Tok) (hl : l.length ≤ 1048576) : Ret Try.prog 138 [.list (l.map attrD) t1, .list (m.map attrD) t2] (.bool (decide (l = m))) := by
  refine Ret.of fun σ => ?_
  refine HCalls.start mixed false _ _ (fn := Try.f138) (by kernel_rfl) rfl (by kernel_rfl) rfl (by kernel_rfl) (by kernel_rfl) ?_
  simp (maxSteps := 2000000) +contextual [-decide_eq_true_eq, -decide_eq_false_iff_not]
  refine ⟨fun h1 => ?_, fun h1 => ?_⟩
  · intro h; subst h; simp at h1
  · have hlm : l.length = m.length := by have := dec_t h1; omega
    refine hloop_fix (fun n e => ∃ i : Nat, i + n = l.length ∧ e 0 = .list (l.map attrD) t1 ∧ e 1 = .list (m.map attrD) t2 ∧ e 12 = .int .i64 l.length ∧ e 13 = .int .i64 i ∧ ∀ j, j < i → l[j]? = m[j]?) l.length ?_ ?_
    · exact ⟨0, by simp⟩
    · rintro n e ⟨i, hi, e0, e1, e12, e13, hok⟩
      simp (maxSteps := 2000000) +contextual [e0, e1, e12, e13, -decide_eq_true_eq, -decide_eq_false_iff_not]
      refine ⟨fun h4 => hdraw_intro (by kernel_rfl) ?_, fun h4 => ?_⟩
      · have h4 := dec_t h4
        simp (maxSteps := 2000000) +contextual [e0, e1, e12, e13, attrD_length, attrD_def, -decide_eq_true_eq, -decide_eq_false_iff_not]
        refine ⟨h4, fun x hx => ⟨by omega, fun y hy => ⟨fun h5 h => ?_, fun e1 e2 e3 => ⟨n - 1, by omega, i + 1, by omega, by rw [wrap_i64] <;> omega, fun j hj => ?_⟩⟩⟩⟩
        · subst h
          rw [hx] at hy; injection hy with hy; subst hy
          simp at h5
        · by_cases hji : j = i
          · subst hji
            rw [hx, hy]
            have : x = y := by cases x; cases y; simp at e1 e2 e3; subst e1 e2 e3; rfl
            rw [this]
          · exact hok j (by omega)
      · have h4 := dec_f h4
        apply List.ext_getElem?
        intro j
        by_cases hj : j < i
        · exact hok j hj
        · rw [List.getElem?_eq_none (by omega), List.getElem?_eq_none (by omega)]
theorem c_same (l m : List Attr) (t1 t2 : Tok) (hl : l.length ≤ 1048576) : Ret Try.prog 111 [.list (l.map attrD) t1, .list (m.map attrD) t2] (.bool (decide (l = m))) := by
  refine Ret.of fun σ => ?_
  refine HCalls.start mixed false _ _ (fn := Try.f111) (by kernel_rfl) rfl (by kernel_rfl) rfl (by kernel_rfl) (by kernel_rfl) ?_
  simp (maxSteps := 2000000) +contextual [-decide_eq_true_eq, -decide_eq_false_iff_not]
  refine c_sameA l m t1 t2 hl _ _ ?_
  simp (maxSteps := 2000000) +contextual [-decide_eq_true_eq, -decide_eq_false_iff_not]
def newA (l : List Attr) : List Attr := someA l true ++ someA l false
theorem someA_le (l : List Attr) (st : Bool) : (someA l st).length ≤ l.length := List.length_filter_le _ _
theorem c_new (l : List Attr) (tok : Tok) (σ : Store) (hl : l.length ≤ 1048576) : HCalls Try.prog 118 [.list (l.map attrD) tok] σ fun d s => (∃ tok, (tok = .ro ∨ tok = .nil) ∧ d = .list ((newA l).map attrD) tok) ∧ s = σ := by
  refine HCalls.frozen attrD_length ?_
  refine HCalls.start mixed true _ _ (fn := Try.f118) (by kernel_rfl) rfl (by kernel_rfl) rfl (by kernel_rfl) (by kernel_rfl) ?_
  simp (maxSteps := 2000000) +contextual [-decide_eq_true_eq, -decide_eq_false_iff_not]
  refine (c_some l tok true σ hl).mono ?_
  intro d s ho
  simp (maxSteps := 2000000) +contextual [-decide_eq_true_eq, -decide_eq_false_iff_not]
  refine (HCalls.frozen attrD_length (c_some l tok false s hl)).mono ?_
  rintro d' s' ⟨⟨tok', -, rfl⟩, rfl⟩
  have l1 := someA_le l true
  have l2 := someA_le l false
  simp (maxSteps := 2000000) +contextual [attrD_length, ho.sized, -decide_eq_true_eq, -decide_eq_false_iff_not]
  refine ho.append attrD_length (SLe.refl _) rfl rfl rfl (someA l false) rfl (by simp; omega) (by omega) ?_
  intro d' s2 s3 h1 h2
  simp (maxSteps := 2000000) +contextual [-decide_eq_true_eq, -decide_eq_false_iff_not]
  exact ⟨s3, h1, h2⟩

def addA (out : List Attr) (a : Attr) : List Attr := if atA out a.name < 0 then out ++ [a] else out
def joinA (old want : List Attr) : List Attr := ((someA want false).foldl addA (someA old true)).take 8
theorem addA_le (out : List Attr) (a : Attr) : (addA out a).length ≤ out.length + 1 := by unfold addA; split <;> simp
theorem foldA_le (l : List Attr) (out : List Attr) : (l.foldl addA out).length ≤ out.length + l.length := by
  induction l generalizing out with
  | nil => simp
  | cons a l ih =>
    have := ih (addA out a)
    have := addA_le out a
    simp only [List.foldl_cons, List.length_cons]; omega
theorem c_join (l m : List Attr) (t1 t2 : Tok) (σ : Store) (hl : l.length ≤ 1048576) (hm : m.length ≤ 1048576) : HCalls Try.prog 119 [.list (l.map attrD) t1, .list (m.map attrD) t2] σ fun d s => (∃ tok, (tok = .ro ∨ tok = .nil) ∧ d = .list ((joinA l m).map attrD) tok) ∧ s = σ := by
  refine HCalls.freeze ?_
  refine HCalls.start mixed true _ _ (fn := Try.f119) (by kernel_rfl) rfl (by kernel_rfl) rfl (by kernel_rfl) (by kernel_rfl) ?_
  simp (maxSteps := 2000000) +contextual [-decide_eq_true_eq, -decide_eq_false_iff_not]
  refine (c_some l t1 true σ hl).mono ?_
  intro d s ho
  simp (maxSteps := 2000000) +contextual [-decide_eq_true_eq, -decide_eq_false_iff_not]
  refine (HCalls.frozen attrD_length (c_some m t2 false s hm)).mono ?_
  rintro d' s' ⟨⟨t3, -, rfl⟩, rfl⟩
  have l1 := someA_le l true
  have l2 := someA_le m false
  simp (maxSteps := 2000000) +contextual [-decide_eq_true_eq, -decide_eq_false_iff_not]
  refine hloop_intro (fun n e s => ∃ (i : Nat) (out : List Attr) (d : D), i + n = (someA m false).length ∧ e 5 = d ∧ Own attrD 3 σ out d s ∧ e 11 = .list ((someA m false).map attrD) t3 ∧ e 12 = .int .i64 (someA m false).length ∧ e 13 = .int .i64 i ∧ out = ((someA m false).take i).foldl addA (someA l true) ∧ out.length ≤ (someA l true).length + i) (someA m false).length ?_ ?_
  · exact ⟨0, someA l true, d, by simp, by simp, ho, by simp⟩
  · rintro n e s ⟨i, out, d, hi, e5, ho, e11, e12, e13, hout, hlen⟩
    by_cases h4 : i < (someA m false).length
    · have hx : (someA m false)[i]? = some (someA m false)[i] := List.getElem?_eq_getElem h4
      simp (maxSteps := 2000000) +contextual [e5, e11, e12, e13, attrD_def, h4, hx, -decide_eq_true_eq, -decide_eq_false_iff_not]
      intro b hb
      refine (c_at out d _ _ (ho.view.mono ((SLe.refl s).set hb _)) (by omega)).mono ?_
      rintro d' s' ⟨rfl, rfl⟩
      have tk : (someA m false).take (i + 1) = (someA m false).take i ++ [(someA m false)[i]] := by rw [List.take_add_one, hx]; rfl
      have go : addA out (someA m false)[i] = ((someA m false).take (i + 1)).foldl addA (someA l true) := by
        rw [tk, List.foldl_append, ← hout]; rfl
      have hl2 := addA_le out (someA m false)[i]
      simp (maxSteps := 2000000) +contextual [e5, e11, e12, e13, hb, ho.sized, -decide_eq_true_eq, -decide_eq_false_iff_not]
      refine ⟨fun h5 b2 hne hb2 => ?_, fun h5 => ?_⟩
      · have h5 : atA out (someA m false)[i].name < 0 := dec_t h5
        refine ho.append attrD_length (((SLe.refl s).set hb _).set (by simp [hne, hb2]) _) rfl rfl rfl [(someA m false)[i]] rfl (by simp; omega) (by simp; omega) ?_
        intro d' s2 s3 g1 g2
        simp (maxSteps := 2000000) +contextual [e5, e11, e12, e13, hb, -decide_eq_true_eq, -decide_eq_false_iff_not]
        refine ⟨n - 1, by omega, s3, g1, i + 1, by omega, out ++ [(someA m false)[i]], g2, by rw [wrap_i64] <;> omega, ?_, by simp; omega⟩
        rw [← go, addA, if_pos h5]
      · have h5 : ¬ atA out (someA m false)[i].name < 0 := dec_f h5
        refine ⟨n - 1, by omega, s, (SLe.refl s).set hb _, i + 1, by omega, out, ho, by rw [wrap_i64] <;> omega, ?_, by omega⟩
        rw [← go, addA, if_neg h5]
    · have hil : i = (someA m false).length := by omega
      rw [hil, List.take_length] at hout
      have hj : joinA l m = out.take 8 := by rw [joinA, ← hout]
      cases ho with
      | nil h =>
        simp (maxSteps := 2000000) +contextual [e5, e11, e12, e13, h4, -decide_eq_true_eq, -decide_eq_false_iff_not]
        exact ⟨σ, SLe.refl σ, .inl ⟨by rw [hj, h]; rfl, rfl⟩⟩
      | cells b c rest hb hc hm' hr =>
        simp (maxSteps := 2000000) +contextual [e5, e11, e12, e13, h4, -decide_eq_true_eq, -decide_eq_false_iff_not]
        have hq : (if (8 : Int) < ↑out.length then (8 : Int) else ↑out.length) = ((out.take 8).length : Int) := by rw [List.length_take]; split <;> omega
        have hle : (out.take 8).length ≤ out.length := by rw [List.length_take]; omega
        rw [hq]
        refine ⟨by simpa using hc, ⟨by omega, by omega⟩, _, SLe.refl _, _, σ, (SLe.refl σ).set hb _, ?_, .inl rfl, rfl⟩
        have hsp : (out.map attrD).flatten ++ rest = ((out.take 8).map attrD).flatten ++ (((out.drop 8).map attrD).flatten ++ rest) := by
          rw [← List.append_assoc, ← List.flatten_append, ← List.map_append, List.take_append_drop]
        have hfz := Frz.slice (s' := σ) (s := σ.set b (.cells ((out.map attrD).flatten ++ rest))) b 0 (out.take 8).length c 3 ((out.map attrD).flatten ++ rest) (by simp) hb (by rw [flatA_length]; omega) (by omega) hm'
        rw [List.drop_zero, hsp, chunk_flat attrD 3 attrD_length] at hfz
        rw [hj, hsp]
        exact hfz

def findA (l : List Attr) (nm : ByteArray) : Option Attr := l.find? fun a => decide (a.name = nm)
def foundD (r : Option Attr) : D := match r with
  | some a => .tup [.agg (attrD a), .bool true]
  | none => .tup [.agg [.str ⟨#[]⟩, .str ⟨#[]⟩, .bool false], .bool false]
def fewA (l : List Attr) : Bool := decide (l.length ≤ 20) && l.all fun a => decide (a.name.size ≤ 100) && decide (a.value.size ≤ 100)
theorem fewA_fits {l : List Attr} (h : fewA l = true) : l.length ≤ 20 ∧ ∀ a ∈ l, a.name.size ≤ 100 ∧ a.value.size ≤ 100 := by
  simpa [fewA] using h
theorem c_few3 (l : List Attr) (tok : Tok) : Ret Try.prog 80 [.list (l.map attrD) tok] (.int .i64 (if fewA l then 1 else 0)) := by
  refine Ret.of fun σ => ?_
  refine HCalls.start mixed false _ _ (fn := Try.f80) (by kernel_rfl) rfl (by kernel_rfl) rfl (by kernel_rfl) (by kernel_rfl) ?_
  simp (maxSteps := 2000000) +contextual [-decide_eq_true_eq, -decide_eq_false_iff_not]
  let ok : Attr → Bool := fun a => decide (a.name.size ≤ 100) && decide (a.value.size ≤ 100)
  refine hloop_fix (fun n e => ∃ i : Nat, i + n = l.length ∧ i ≤ 20 ∧ e 0 = .list (l.map attrD) tok ∧ e 3 = .int .i64 i ∧ ∀ j, j < i → ∀ x, l[j]? = some x → ok x = true) l.length ?_ ?_
  · exact ⟨0, by simp⟩
  · rintro n e ⟨i, hi, hi2, e0, e3, hok⟩
    have no : ∀ x, l[i]? = some x → ok x = false → fewA l = false := fun x hx h => by
      simp only [fewA, Bool.and_eq_false_iff]
      right
      rw [List.all_eq_false]
      exact ⟨x, List.mem_of_getElem? hx, by simpa [ok] using h⟩
    have go : ∀ x, l[i]? = some x → i < 20 → ok x = true → ∃ m, m < n ∧ ∃ i', i' + m = l.length ∧ i' ≤ 20 ∧ IntKind.i64.wrap (↑i + 1) = ↑i' ∧ ∀ j, j < i' → ∀ x, l[j]? = some x → ok x = true := fun x hx h20 h => by
      have := (List.getElem?_eq_some_iff.1 hx).1
      refine ⟨n - 1, by omega, i + 1, by omega, by omega, by rw [wrap_i64] <;> omega, fun j hj y hy => ?_⟩
      by_cases hji : j = i
      · subst hji; rw [hx] at hy; injection hy with hy; subst hy; exact h
      · exact hok j (by omega) y hy
    have yes : ¬ i < l.length → l.length ≤ 20 → fewA l = true := fun h1 h2 => by
      have : l.all ok = true := by
        rw [List.all_eq_true]
        intro a ha
        obtain ⟨j, hj, rfl⟩ := List.mem_iff_getElem.1 ha
        exact hok j (by omega) _ (List.getElem?_eq_getElem hj)
      simp only [fewA, Bool.and_eq_true, decide_eq_true_eq]
      exact ⟨h2, this⟩
    have big : ¬ l.length ≤ 20 → fewA l = false := fun h => by simp [fewA, h]
    simp (maxSteps := 2000000) +contextual [e0, e3, attrD_length, attrD_def, -decide_eq_true_eq, -decide_eq_false_iff_not]
    grind
end Go.HL
