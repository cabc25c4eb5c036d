/- Which of the old nodes becomes which that is wanted. -/
import Derived.Test.YtdbbbhjajkobaabGwref
import Derived.Test.YtdbbbhjajkobaabH3
set_option linter.unusedVariables false
set_option linter.unusedSimpArgs false
set_option maxRecDepth 100000
set_option maxHeartbeats 1000000
namespace Go.HL
open Go.RowKit Go.Proofs

structure Old where
  tag : ByteArray
  key : ByteArray
deriving DecidableEq
def oldD (o : Old) : List D := [.str o.tag, .str o.key]
theorem oldD_length (o : Old) : (oldD o).length = 2 := rfl
theorem oldD_def (o : Old) : oldD o = [.str o.tag, .str o.key] := rfl
theorem natD_def (n : Nat) : natD n = [.int .i64 n] := rfl
/-- Does what is wanted take an old one, that is the first one of what is left, or not? -/
def takesP (w : Want) (o : Old) (first : Bool) : Bool :=
  if w.kind = 1 then decide (o.tag = w.tag) && (decide (o.key = w.key) && (first || !decide (w.key = ⟨#[]⟩)))
  else if w.kind = 2 then first && decide (o.tag = ⟨#[]⟩)
  else if w.kind = 3 then first else false
theorem c_takes16 (w : Want) (o : Old) (first : Bool) : Ret Try.prog 120 [.agg (wantD w), .agg (oldD o), .bool first] (.bool (takesP w o first)) := by
  refine Ret.of fun σ => ?_
  refine HCalls.start mixed false _ _ (fn := Try.f120) (by kernel_rfl) rfl (by kernel_rfl) rfl (by kernel_rfl) (by kernel_rfl) ?_
  rw [wantD_eq, oldD_def]
  unfold takesP
  by_cases h1 : w.kind = 1
  · simp (maxSteps := 2000000) +contextual [h1, -decide_eq_true_eq, -decide_eq_false_iff_not]
  · by_cases h2 : w.kind = 2
    · simp (maxSteps := 2000000) +contextual [h1, h2, -decide_eq_true_eq, -decide_eq_false_iff_not]
    · by_cases h3 : w.kind = 3
      · simp (maxSteps := 2000000) +contextual [h1, h2, h3, -decide_eq_true_eq, -decide_eq_false_iff_not]
      · simp (maxSteps := 2000000) +contextual [h1, h2, h3, -decide_eq_true_eq, -decide_eq_false_iff_not]
theorem flatN (l : List Nat) : (l.map natD).flatten = l.map fun n : Nat => D.int .i64 n := by
  induction l with
  | nil => rfl
  | cons x l ih => rw [List.map_cons, List.flatten_cons, ih]; rfl
theorem flatN_drop (l : List Nat) (rest : List D) {j : Nat} (h : j ≤ l.length) : List.drop j ((l.map natD).flatten ++ rest) = ((l.drop j).map natD).flatten ++ rest := by
  rw [flatN, flatN, List.drop_append_of_le_length (by simpa using h), List.map_drop]
theorem chunkN (l : List Nat) (rest : List D) : chunk l.length 1 ((l.map natD).flatten ++ rest) = l.map natD := by
  induction l with
  | nil => rfl
  | cons x l ih =>
    rw [List.map_cons, List.flatten_cons, List.append_assoc, List.length_cons]
    show natD x :: chunk l.length 1 ((l.map natD).flatten ++ rest) = _
    rw [ih]
theorem del_spl (l : List Nat) (rest : List D) {i : Nat} (hi : i < l.length) :
    ∃ x : Nat, spl ((l.map natD).flatten ++ rest) i (List.drop (i + 1) (l.map natD)).flatten = ((l.eraseIdx i).map natD).flatten ++ (D.int .i64 x :: rest) := by
  have hlast : l.drop (l.length - 1) = [l[l.length - 1]'(by omega)] := by
    rw [List.drop_eq_getElem_cons (by omega), List.drop_eq_nil_of_le (by omega)]
  refine ⟨l[l.length - 1]'(by omega), ?_⟩
  have h1 : (List.drop (i + 1) (l.map natD)).flatten = ((l.drop (i + 1)).map natD).flatten := by rw [List.map_drop]
  have h2 : ((l.drop (i + 1)).map natD).flatten.length = l.length - (i + 1) := by rw [flatN]; simp
  have h3 : List.take i ((l.map natD).flatten ++ rest) = ((l.take i).map natD).flatten := by
    rw [flatN, flatN, List.take_append_of_le_length (by simp; omega), List.map_take]
  unfold spl
  rw [h1, h2, h3, show i + (l.length - (i + 1)) = l.length - 1 from by omega, flatN_drop l rest (by omega), hlast, List.eraseIdx_eq_take_drop_succ]
  simp [natD_def]
/-- One left off, in its own block. -/
theorem c_del (b : Nat) (l : List Nat) (c i : Nat) (rest : List D) (σ : Store) (hs : σ b = some (.cells ((l.map natD).flatten ++ rest))) (hi : i < l.length) (hl : l.length ≤ 1048576) (hc : l.length ≤ c) (hc2 : c ≤ 9223372036854775807) (hr : rest.length = c - l.length) :
    HCalls Try.prog 117 [.lit (.slice (some ⟨b, 0, none⟩) l.length c), .int .i64 i, .int .i64 (i + 1 : Nat)] σ fun d s => d = .lit (.slice (some ⟨b, 0, none⟩) (l.length - 1) c) ∧ s = σ.set b (.cells (((l.eraseIdx i).map natD).flatten ++ (.int .i64 0 :: rest))) := by
  refine HCalls.start mixed true _ _ (fn := Try.f117) (by kernel_rfl) rfl (by kernel_rfl) rfl (by kernel_rfl) (by kernel_rfl) ?_
  have hne : ¬ (i : Int) = i + 1 := by omega
  simp (maxSteps := 2000000) +contextual [hs, hne, -decide_eq_true_eq, -decide_eq_false_iff_not]
  refine ⟨by omega, ?_⟩
  refine hdraw_cut 6 σ (SLe.refl _) (by kernel_rfl) (by kernel_rfl) ?_
  have hch : chunk (l.length - (i + 1)) 1 (List.drop (i + 1) ((List.map natD l).flatten ++ rest)) = (l.drop (i + 1)).map natD := by
    rw [flatN_drop l rest (by omega)]
    have := chunkN (l.drop (i + 1)) rest
    rw [List.length_drop] at this; exact this
  have hfit : i + 1 + (l.length - (i + 1)) ≤ l.length + rest.length := by omega
  have hle : (i : Int) ≤ c := by omega
  have h1 : (0 : Int) ≤ i + 1 ∧ (i : Int) + 1 ≤ l.length := by omega
  have hm1 : i + (l.length - (i + 1)) = l.length - 1 := by omega
  have hm2 : (i : Int) + ((l.length - (i + 1) : Nat) : Int) = ((l.length - 1 : Nat) : Int) := by omega
  have hm3 : l.length - (l.length - 1) = 1 := by omega
  have hm4 : ¬ c = l.length - 1 := by omega
  have hm5 : l.length - 1 ≤ c := by omega
  have hm6 : c ≤ l.length + rest.length := by omega
  have hm7 : (l.length - 1) * 8 ≤ 140737488355328 := by omega
  have hm8 : l.length - 1 ≤ 9223372036854775807 := by omega
  have hm9 : ((l.length - 1 : Nat) : Int) ≤ l.length := by omega
  have hm10 : ¬ c < l.length - 1 := by omega
  obtain ⟨x, hx⟩ := del_spl l rest hi
  have hel : ((l.eraseIdx i).map natD).flatten.length = l.length - 1 := by rw [flatN]; simp [List.length_eraseIdx, hi]
  have hsp : ∀ y : D, spl (((l.eraseIdx i).map natD).flatten ++ y :: rest) (l.length - 1) [D.int .i64 0] = ((l.eraseIdx i).map natD).flatten ++ (D.int .i64 0 :: rest) := fun y => by
    unfold spl
    rw [← hel, List.take_left, show ((l.eraseIdx i).map natD).flatten.length + [D.int .i64 0].length = (((l.eraseIdx i).map natD).flatten ++ [y]).length from by rw [List.length_append]; rfl]
    rw [show ((l.eraseIdx i).map natD).flatten ++ y :: rest = (((l.eraseIdx i).map natD).flatten ++ [y]) ++ rest from by simp, List.drop_left]
    simp
  have hler : (l.eraseIdx i).length = l.length - 1 := by simp [List.length_eraseIdx, hi]
  have hm11 : l.length - 1 + 1 ≤ (l.eraseIdx i).length + (rest.length + 1) := by omega
  by_cases hci : c = i + 1
  · subst hci
    have hli : l.length = i + 1 := by omega
    have hci2 : i + 1 ≤ i + 1 + rest.length + (i + 1) := by omega
    have hz : (i : Int) ≤ i + 1 := by omega
    have hz1 : (0 : Int) ≤ i + 1 := by omega
    simp (maxSteps := 2000000) +contextual [hs, hne, hli, hz, hz1, -decide_eq_true_eq, -decide_eq_false_iff_not]
    refine ⟨fun _ => none, (fun _ _ h => by cases h), ?_⟩
    have hx2 : spl ((List.map natD l).flatten ++ rest) i [] = ((l.eraseIdx i).map natD).flatten ++ (D.int .i64 x :: rest) := by
      rw [← hx, List.drop_eq_nil_of_le (by simp; omega)]; rfl
    have hsp2 := hsp (D.int .i64 x)
    rw [show l.length - 1 = i from by omega] at hsp2
    rw [hx2]
    refine ⟨by omega, ⟨(fun _ _ h => by cases h), ?_, ?_⟩, fun h => by omega⟩
    · rw [List.length_append, hel, List.length_cons]; omega
    · have e : spl (((l.eraseIdx i).map natD).flatten ++ D.int .i64 x :: rest) i [D.lit (Value.int IntKind.i64 0)] = _ := hsp2
      rw [e]; exact SLe.refl _
  · simp (maxSteps := 2000000) +contextual [hs, hne, hci, hc, hch, hfit, hle, h1, hm1, hm2, hm3, hm4, hm5, hm6, hm7, hm8, hm9, hm10, hx, -decide_eq_true_eq, -decide_eq_false_iff_not]
    refine ⟨fun _ => none, (fun _ _ h => by cases h), ?_⟩
    have e : spl (((l.eraseIdx i).map natD).flatten ++ D.int .i64 x :: rest) (l.length - 1) [D.lit (Value.int IntKind.i64 0)] = _ := hsp (D.int .i64 x)
    rw [e]
    exact ⟨by omega, (fun _ _ h => by cases h), hm11, SLe.refl _⟩
theorem c_wh1 (os : List Old) (w : Want) (i : Nat) (b3 b5 : Nat) (tok : Tok) (σ : Store) (h3 : σ b3 = some (.cells [.list (os.map oldD) tok])) (h5 : σ b5 = some (.cells (wantD w))) (hi : i < os.length) :
    HCalls Try.prog 142 [.int .i64 i, .ptr b3 0, .ptr b5 0] σ fun d s => d = .bool (decide (os[i]? = some ⟨w.tag, w.key⟩)) ∧ s = σ := by
  refine HCalls.start mixed false _ _ (fn := Try.f142) (by kernel_rfl) rfl (by kernel_rfl) rfl (by kernel_rfl) (by kernel_rfl) ?_
  obtain ⟨o, ho, ho2⟩ : ∃ o, os[i]? = some o ∧ os[i] = o := ⟨_, List.getElem?_eq_getElem hi, rfl⟩
  rw [wantD_eq] at h5
  simp (maxSteps := 2000000) +contextual [h3, h5, -decide_eq_true_eq, -decide_eq_false_iff_not]
  refine hdraw_intro (by kernel_rfl) ?_
  simp (maxSteps := 2000000) +contextual [h3, h5, hi, ho, ho2, oldD_def, oldD_length, -decide_eq_true_eq, -decide_eq_false_iff_not]
  obtain ⟨a, b⟩ := o
  by_cases h1 : a = w.tag <;> by_cases h2 : b = w.key <;> simp [h1, h2]
theorem c_idxN (l : List Nat) (d : D) (g : FuncId) (caps : List Value) (p : Nat → Bool) (σ : Store) (hv : View natD 1 σ l d) (ent : entersB Try.prog g = true) (hl : l.length ≤ 9223372036854775807)
    (hf : ∀ a ∈ l, HCalls Try.prog g (.int .i64 (a : Nat) :: caps.map .lit) σ fun d s => d = .bool (p a) ∧ s = σ) :
    HCalls Try.prog 141 [d, .lit (.func (.func g) #[] ⟨caps⟩)] σ fun d s => d = .int .i64 (idx p l) ∧ s = σ := by
  refine HCalls.start mixed false _ _ (fn := Try.f141) (by kernel_rfl) rfl (by kernel_rfl) rfl (by kernel_rfl) (by kernel_rfl) ?_
  have fin : ∀ (n i : Nat) (x : Nat), i + n = l.length → (∀ j, j < i → ∀ x, l[j]? = some x → p x = false) → l[i]? = some x →
      (p x = false → ∃ m, m < n ∧ ∃ i', i' + m = l.length ∧ IntKind.i64.wrap (↑i + 1) = ↑i' ∧ ∀ j, j < i' → ∀ x, l[j]? = some x → p x = false) ∧ (p x = true → (i : Int) = idx p l) := by
    intro n i x hi hno hx
    have hlt := (List.getElem?_eq_some_iff.1 hx).1
    refine ⟨fun hp => ⟨n - 1, by omega, i + 1, by omega, by rw [wrap_i64] <;> omega, fun j hj y hy => ?_⟩, fun hp => (idx_at hx hp hno).symm⟩
    by_cases hji : j = i
    · subst hji; rw [hx] at hy; injection hy with hy; subst hy; exact hp
    · exact hno j (by omega) y hy
  rcases hv with ⟨tok⟩ | ⟨b, c, rest, he⟩
  · simp (maxSteps := 2000000) +contextual [-decide_eq_true_eq, -decide_eq_false_iff_not]
    refine hloop_fix (fun n e => ∃ i : Nat, i + n = l.length ∧ e 0 = .list (l.map natD) tok ∧ e 1 = .lit (.func (.func g) #[] ⟨caps⟩) ∧ e 7 = .int .i64 l.length ∧ e 8 = .int .i64 i ∧ ∀ j, j < i → ∀ x, l[j]? = some x → p x = false) l.length ?_ ?_
    · exact ⟨0, by simp⟩
    · rintro n e ⟨i, hi, e0, e1, e7, e8, hno⟩
      simp (maxSteps := 2000000) +contextual [e0, e1, e7, e8, ent, natD_length, -decide_eq_true_eq, -decide_eq_false_iff_not]
      refine ⟨fun h4 => ⟨by simpa using h4, fun x hx => (hf x (List.mem_of_getElem? hx)).mono ?_⟩, fun h4 => ?_⟩
      · rintro d s ⟨rfl, rfl⟩
        simp (maxSteps := 2000000) +contextual [e0, e1, e7, e8, -decide_eq_true_eq, -decide_eq_false_iff_not]
        exact ⟨(fin n i x hi hno hx).2, (fin n i x hi hno hx).1⟩
      · have h4 := dec_f h4
        rw [idx_none fun j hj x hx => hno j (by omega) x hx]
  · simp (maxSteps := 2000000) +contextual [-decide_eq_true_eq, -decide_eq_false_iff_not]
    refine hloop_fix (fun n e => ∃ i : Nat, i + n = l.length ∧ e 0 = .lit (.slice (some ⟨b, 0, none⟩) l.length c) ∧ e 1 = .lit (.func (.func g) #[] ⟨caps⟩) ∧ e 7 = .int .i64 l.length ∧ e 8 = .int .i64 i ∧ ∀ j, j < i → ∀ x, l[j]? = some x → p x = false) l.length ?_ ?_
    · exact ⟨0, by simp⟩
    · rintro n e ⟨i, hi, e0, e1, e7, e8, hno⟩
      by_cases h4 : i < l.length
      · have hx : l[i]? = some l[i] := List.getElem?_eq_getElem h4
        have hfp : List.take 1 (List.drop i ((l.map natD).flatten ++ rest)) = [D.int .i64 (l[i] : Nat)] := by
          rw [flatN_drop l rest (by omega), List.drop_eq_getElem_cons h4]; rfl
        simp (maxSteps := 2000000) +contextual [e0, e1, e7, e8, ent, he, h4, hfp, -decide_eq_true_eq, -decide_eq_false_iff_not]
        refine ⟨by omega, (hf _ (List.getElem_mem h4)).mono ?_⟩
        rintro d s ⟨rfl, rfl⟩
        simp (maxSteps := 2000000) +contextual [e0, e1, e7, e8, -decide_eq_true_eq, -decide_eq_false_iff_not]
        exact ⟨(fin n i _ hi hno hx).2, (fin n i _ hi hno hx).1⟩
      · simp (maxSteps := 2000000) +contextual [e0, e7, e8, h4, -decide_eq_true_eq, -decide_eq_false_iff_not]
        rw [idx_none fun j hj x hx => hno j (by omega) x hx]

/-- Where, among what is left, what is wanted finds what it takes; -1: nowhere. -/
def whichP (os : List Old) (l : List Nat) (w : Want) : Int := match l with
  | [] => -1
  | i :: r => if w.kind = 3 ∨ w.kind = 2 ∧ (os.getD i ⟨⟨#[]⟩, ⟨#[]⟩⟩).tag = ⟨#[]⟩ ∨ w.kind = 1 ∧ w.key = ⟨#[]⟩ ∧ os.getD i ⟨⟨#[]⟩, ⟨#[]⟩⟩ = ⟨w.tag, ⟨#[]⟩⟩ then 0
    else if w.kind = 1 ∧ ¬ w.key = ⟨#[]⟩ then idx (fun i => decide (os[i]? = some ⟨w.tag, w.key⟩)) (i :: r) else -1
theorem c_which (os : List Old) (w : Want) (l : List Nat) (d : D) (tok : Tok) (σ : Store) (hv : View natD 1 σ l d) (hl : l.length ≤ 1048576) (hok : ∀ i ∈ l, i < os.length) (hne : ∀ es tk, l = [] ∨ d ≠ .list es tk) :
    HCalls Try.prog 116 [.list (os.map oldD) tok, d, .agg (wantD w)] σ fun d s => d = .int .i64 (whichP os l w) ∧ s = σ := by
  refine HCalls.start mixed false _ _ (fn := Try.f116) (by kernel_rfl) rfl (by kernel_rfl) rfl (by kernel_rfl) (by kernel_rfl) ?_
  cases hv with
  | list tk =>
    cases l with
    | nil =>
      simp (maxSteps := 2000000) +contextual [whichP, -decide_eq_true_eq, -decide_eq_false_iff_not]
    | cons i r =>
      rcases hne ((i :: r).map natD) tk with h | h
      · cases h
      · exact absurd rfl h
  | cells b c rest e =>
    cases l with
    | nil => 
      simp (maxSteps := 2000000) +contextual [whichP, -decide_eq_true_eq, -decide_eq_false_iff_not]
    | cons i r =>
      have hpos : ¬ (r.length : Int) + 1 = 0 := by omega
      have hi : i < os.length := hok i (by simp)
      obtain ⟨o, ho, ho2⟩ : ∃ o, os[i]? = some o ∧ os[i] = o := ⟨_, List.getElem?_eq_getElem hi, rfl⟩
      have hgd : os.getD i ⟨⟨#[]⟩, ⟨#[]⟩⟩ = o := by rw [List.getD_eq_getElem?_getD, ho]; rfl
      have hWP : whichP os (i :: r) w = if w.kind = 3 ∨ w.kind = 2 ∧ o.tag = ⟨#[]⟩ ∨ w.kind = 1 ∧ w.key = ⟨#[]⟩ ∧ o = ⟨w.tag, ⟨#[]⟩⟩ then 0
          else if w.kind = 1 ∧ ¬ w.key = ⟨#[]⟩ then idx (fun i => decide (os[i]? = some ⟨w.tag, w.key⟩)) (i :: r) else -1 := by
        rw [← hgd]; rfl
      rw [wantD_eq w]
      have e0 := e
      rw [List.map_cons, List.flatten_cons] at e
      simp only [natD_def, List.cons_append, List.nil_append] at e
      simp (maxSteps := 2000000) +contextual [e, hpos, -decide_eq_true_eq, -decide_eq_false_iff_not]
      intro b1 hb1 b2 n2 hb2
      have n1 : ¬ b = b1 := fun h => by subst h; rw [hb1] at e; cases e
      have n3 : ¬ b = b2 := fun h => by subst h; rw [hb2] at e; cases e
      have n2' : ¬ b1 = b2 := fun h => n2 h.symm
      refine hdraw_intro (by kernel_rfl) ?_
      simp (maxSteps := 2000000) +contextual [e, hpos, n1, n3, n2, n2', hi, ho, ho2, oldD_def, oldD_length, litsOf, litOf, -decide_eq_true_eq, -decide_eq_false_iff_not]
      intro b3 m2 m1 hb3
      have m3 : ¬ b = b3 := fun h => by subst h; rw [hb3] at e; cases e
      have m1' : ¬ b1 = b3 := fun h => m1 h.symm
      have m2' : ¬ b2 = b3 := fun h => m2 h.symm
      have hS : SLe σ (((σ.set b1 (HObj.cells [D.list (List.map oldD os) tok])).set b2 (HObj.cells [D.int IntKind.i64 w.kind, D.str w.tag, D.str w.key, D.str w.text, D.list (List.map attrD w.attrs) Tok.ro, D.list (List.map wantD w.kids) Tok.ro])).set b3 (HObj.cells [D.str o.tag, D.str o.key])) := by (intro xx oo hh; simp only [Store.set] at hh ⊢; grind)
      have hcall := c_idxN (i :: r) (.lit (.slice (some ⟨b, 0, none⟩) (r.length + 1) c)) 142 [.pointer (some ⟨b1, 0, none⟩), .pointer (some ⟨b2, 0, none⟩)] (fun i => decide (os[i]? = some ⟨w.tag, w.key⟩)) (((σ.set b1 (HObj.cells [D.list (List.map oldD os) tok])).set b2 (HObj.cells [D.int IntKind.i64 w.kind, D.str w.tag, D.str w.key, D.str w.text, D.list (List.map attrD w.attrs) Tok.ro, D.list (List.map wantD w.kids) Tok.ro])).set b3 (HObj.cells [D.str o.tag, D.str o.key]))
        (.cells b c rest (hS _ _ e0)) (by simp) (by omega) (fun a ha => c_wh1 os w a b1 b2 tok _ (by rw [Store.set_ne _ _ _ _ m1', Store.set_ne _ _ _ _ n2', Store.set_same]) (by rw [Store.set_ne _ _ _ _ m2', Store.set_same, wantD_eq]) (hok a ha))
      have n21 : ¬ (2 : Int) = 3 := by decide
      by_cases k3 : w.kind = 3
      · rw [if_pos (.inl k3)] at hWP
        simp (maxSteps := 2000000) +contextual [decide_eq_true k3, hWP, -decide_eq_true_eq, -decide_eq_false_iff_not]
        exact hS
      · by_cases k2 : w.kind = 2
        · have k1 : ¬ w.kind = 1 := by omega
          by_cases ht : o.tag = ⟨#[]⟩
          · rw [if_pos (.inr (.inl ⟨k2, ht⟩))] at hWP
            simp (maxSteps := 2000000) +contextual [decide_eq_false k3, decide_eq_true k2, decide_eq_true ht, hWP, -decide_eq_true_eq, -decide_eq_false_iff_not]
            exact hS
          · rw [if_neg (by simp [k2, ht]), if_neg (by simp [k2])] at hWP
            simp (maxSteps := 2000000) +contextual [decide_eq_false k3, decide_eq_true k2, decide_eq_false ht, decide_eq_false k1, hWP, -decide_eq_true_eq, -decide_eq_false_iff_not]
            exact hS
        · by_cases k1 : w.kind = 1
          · by_cases hke : w.key = ⟨#[]⟩
            · by_cases ht : o = ⟨w.tag, ⟨#[]⟩⟩
              · rw [if_pos (.inr (.inr ⟨k1, hke, ht⟩))] at hWP
                have ht1 : o.tag = w.tag := by rw [ht]
                have ht2 : o.key = ⟨#[]⟩ := by rw [ht]
                simp (maxSteps := 2000000) +contextual [decide_eq_false k3, decide_eq_false k2, decide_eq_true k1, decide_eq_true hke, decide_eq_true ht1, decide_eq_true ht2, hWP, -decide_eq_true_eq, -decide_eq_false_iff_not]
                exact hS
              · rw [if_neg (by simp [k1, hke, ht]), if_neg (by simp [hke])] at hWP
                by_cases ht1 : o.tag = w.tag
                · have ht2 : ¬ o.key = ⟨#[]⟩ := fun h => ht (by cases o; simp at ht1 h; simp [ht1, h])
                  simp (maxSteps := 2000000) +contextual [decide_eq_false k3, decide_eq_false k2, decide_eq_true k1, decide_eq_true hke, decide_eq_true ht1, decide_eq_false ht2, hWP, -decide_eq_true_eq, -decide_eq_false_iff_not]
                  exact hS
                · simp (maxSteps := 2000000) +contextual [decide_eq_false k3, decide_eq_false k2, decide_eq_true k1, decide_eq_true hke, decide_eq_false ht1, hWP, -decide_eq_true_eq, -decide_eq_false_iff_not]
                  exact hS
            · rw [if_neg (by simp [k1, hke]), if_pos ⟨k1, hke⟩] at hWP
              simp (maxSteps := 2000000) +contextual [decide_eq_false k3, decide_eq_false k2, decide_eq_true k1, decide_eq_false hke, hWP, -decide_eq_true_eq, -decide_eq_false_iff_not]
              refine hcall.mono ?_
              rintro d s ⟨rfl, rfl⟩
              simp (maxSteps := 2000000) +contextual [hWP, -decide_eq_true_eq, -decide_eq_false_iff_not]
              exact hS
          · rw [if_neg (by simp [k1, k2, k3]), if_neg (by simp [k1])] at hWP
            simp (maxSteps := 2000000) +contextual [decide_eq_false k3, decide_eq_false k2, decide_eq_false k1, hWP, -decide_eq_true_eq, -decide_eq_false_iff_not]
            exact hS
end Go.HL
