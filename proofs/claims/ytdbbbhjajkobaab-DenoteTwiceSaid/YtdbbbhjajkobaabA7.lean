/- Parts of the proofs, one behind the other: Gmatch Gmpure Gmatof Gmref. -/
import Derived.Test.YtdbbbhjajkobaabA6
import Derived.Test.YtdbbbhjajkobaabH3
/- Which of the old nodes becomes which that is wanted. -/
set_option linter.unusedVariables false
set_option linter.unusedSimpArgs false
set_option maxRecDepth 100000
set_option maxHeartbeats 1000000
namespace Go.HL
open Go.RowKit Go.Proofs

structure Old where
  tag : ByteArray
  key : ByteArray
deriving DecidableEq
def oldD (o : Old) : List D := [.str o.tag, .str o.key]
theorem oldD_length (o : Old) : (oldD o).length = 2 := rfl
theorem oldD_def (o : Old) : oldD o = [.str o.tag, .str o.key] := rfl
theorem natD_def (n : Nat) : natD n = [.int .i64 n] := rfl
/-- Does what is wanted take an old one, that is the first one of what is left, or not? -/
def takesP (w : Want) (o : Old) (first : Bool) : Bool :=
  if w.kind = 1 then decide (o.tag = w.tag) && (decide (o.key = w.key) && (first || !decide (w.key = ⟨#[]⟩)))
  else if w.kind = 2 then first && decide (o.tag = ⟨#[]⟩)
  else if w.kind = 3 then first else false
theorem c_takes16 (w : Want) (o : Old) (first : Bool) : Ret Try.prog 120 [.agg (wantD w), .agg (oldD o), .bool first] (.bool (takesP w o first)) := by
  refine Ret.of fun σ => ?_
  refine HCalls.start mixed false _ _ (fn := Try.f120) (by kernel_rfl) rfl (by kernel_rfl) rfl (by kernel_rfl) (by kernel_rfl) ?_
  rw [wantD_eq, oldD_def]
  unfold takesP
  by_cases h1 : w.kind = 1
  · simp (maxSteps := 2000000) +contextual [h1, -decide_eq_true_eq, -decide_eq_false_iff_not]
  · by_cases h2 : w.kind = 2
    · simp (maxSteps := 2000000) +contextual [h1, h2, -decide_eq_true_eq, -decide_eq_false_iff_not]
    · by_cases h3 : w.kind = 3
      · simp (maxSteps := 2000000) +contextual [h1, h2, h3, -decide_eq_true_eq, -decide_eq_false_iff_not]
      · simp (maxSteps := 2000000) +contextual [h1, h2, h3, -decide_eq_true_eq, -decide_eq_false_iff_not]
theorem flatN (l : List Nat) : (l.map natD).flatten = l.map fun n : Nat => D.int .i64 n := by
  induction l with
  | nil => rfl
  | cons x l ih => rw [List.map_cons, List.flatten_cons, ih]; rfl
theorem flatN_drop (l : List Nat) (rest : List D) {j : Nat} (h : j ≤ l.length) : List.drop j ((l.map natD).flatten ++ rest) = ((l.drop j).map natD).flatten ++ rest := by
  rw [flatN, flatN, List.drop_append_of_le_length (by simpa using h), List.map_drop]
theorem chunkN (l : List Nat) (rest : List D) : chunk l.length 1 ((l.map natD).flatten ++ rest) = l.map natD := by
  induction l with
  | nil => rfl
  | cons x l ih =>
    rw [List.map_cons, List.flatten_cons, List.append_assoc, List.length_cons]
    show natD x :: chunk l.length 1 ((l.map natD).flatten ++ rest) = _
    rw [ih]
theorem del_spl (l : List Nat) (rest : List D) {i : Nat} (hi : i < l.length) :
    ∃ x : Nat, spl ((l.map natD).flatten ++ rest) i (List.drop (i + 1) (l.map natD)).flatten = ((l.eraseIdx i).map natD).flatten ++ (D.int .i64 x :: rest) := by
  have hlast : l.drop (l.length - 1) = [l[l.length - 1]'(by omega)] := by
    rw [List.drop_eq_getElem_cons (by omega), List.drop_eq_nil_of_le (by omega)]
  refine ⟨l[l.length - 1]'(by omega), ?_⟩
  have h1 : (List.drop (i + 1) (l.map natD)).flatten = ((l.drop (i + 1)).map natD).flatten := by rw [List.map_drop]
  have h2 : ((l.drop (i + 1)).map natD).flatten.length = l.length - (i + 1) := by rw [flatN]; simp
  have h3 : List.take i ((l.map natD).flatten ++ rest) = ((l.take i).map natD).flatten := by
    rw [flatN, flatN, List.take_append_of_le_length (by simp; omega), List.map_take]
  unfold spl
  rw [h1, h2, h3, show i + (l.length - (i + 1)) = l.length - 1 from by omega, flatN_drop l rest (by omega), hlast, List.eraseIdx_eq_take_drop_succ]
  simp [natD_def]
/-- One left off, in its own block. -/
theorem c_del (b : Nat) (l : List Nat) (c i : Nat) (rest : List D) (σ : Store) (hs : σ b = some (.cells ((l.map natD).flatten ++ rest))) (hi : i < l.length) (hl : l.length ≤ 1048576) (hc : l.length ≤ c) (hc2 : c ≤ 9223372036854775807) (hr : rest.length = c - l.length) :
    HCalls Try.prog 117 [.lit (.slice (some ⟨b, 0, none⟩) l.length c), .int .i64 i, .int .i64 (i + 1 : Nat)] σ fun d s => d = .lit (.slice (some ⟨b, 0, none⟩) (l.length - 1) c) ∧ s = σ.set b (.cells (((l.eraseIdx i).map natD).flatten ++ (.int .i64 0 :: rest))) := by
  refine HCalls.start mixed true _ _ (fn := Try.f117) (by kernel_rfl) rfl (by kernel_rfl) rfl (by kernel_rfl) (by kernel_rfl) ?_
  have hne : ¬ (i : Int) = i + 1 := by omega
  simp (maxSteps := 2000000) +contextual [hs, hne, -decide_eq_true_eq, -decide_eq_false_iff_not]
  refine ⟨by omega, ?_⟩
  refine hdraw_cut 6 σ (SLe.refl _) (by kernel_rfl) (by kernel_rfl) ?_
  have hch : chunk (l.length - (i + 1)) 1 (List.drop (i + 1) ((List.map natD l).flatten ++ rest)) = (l.drop (i + 1)).map natD := by
    rw [flatN_drop l rest (by omega)]
    have := chunkN (l.drop (i + 1)) rest
    rw [List.length_drop] at this; exact this
  have hfit : i + 1 + (l.length - (i + 1)) ≤ l.length + rest.length := by omega
  have hle : (i : Int) ≤ c := by omega
  have h1 : (0 : Int) ≤ i + 1 ∧ (i : Int) + 1 ≤ l.length := by omega
  have hm1 : i + (l.length - (i + 1)) = l.length - 1 := by omega
  have hm2 : (i : Int) + ((l.length - (i + 1) : Nat) : Int) = ((l.length - 1 : Nat) : Int) := by omega
  have hm3 : l.length - (l.length - 1) = 1 := by omega
  have hm4 : ¬ c = l.length - 1 := by omega
  have hm5 : l.length - 1 ≤ c := by omega
  have hm6 : c ≤ l.length + rest.length := by omega
  have hm7 : (l.length - 1) * 8 ≤ 140737488355328 := by omega
  have hm8 : l.length - 1 ≤ 9223372036854775807 := by omega
  have hm9 : ((l.length - 1 : Nat) : Int) ≤ l.length := by omega
  have hm10 : ¬ c < l.length - 1 := by omega
  obtain ⟨x, hx⟩ := del_spl l rest hi
  have hel : ((l.eraseIdx i).map natD).flatten.length = l.length - 1 := by rw [flatN]; simp [List.length_eraseIdx, hi]
  have hsp : ∀ y : D, spl (((l.eraseIdx i).map natD).flatten ++ y :: rest) (l.length - 1) [D.int .i64 0] = ((l.eraseIdx i).map natD).flatten ++ (D.int .i64 0 :: rest) := fun y => by
    unfold spl
    rw [← hel, List.take_left, show ((l.eraseIdx i).map natD).flatten.length + [D.int .i64 0].length = (((l.eraseIdx i).map natD).flatten ++ [y]).length from by rw [List.length_append]; rfl]
    rw [show ((l.eraseIdx i).map natD).flatten ++ y :: rest = (((l.eraseIdx i).map natD).flatten ++ [y]) ++ rest from by simp, List.drop_left]
    simp
  have hler : (l.eraseIdx i).length = l.length - 1 := by simp [List.length_eraseIdx, hi]
  have hm11 : l.length - 1 + 1 ≤ (l.eraseIdx i).length + (rest.length + 1) := by omega
  by_cases hci : c = i + 1
  · subst hci
    have hli : l.length = i + 1 := by omega
    have hci2 : i + 1 ≤ i + 1 + rest.length + (i + 1) := by omega
    have hz : (i : Int) ≤ i + 1 := by omega
    have hz1 : (0 : Int) ≤ i + 1 := by omega
    simp (maxSteps := 2000000) +contextual [hs, hne, hli, hz, hz1, -decide_eq_true_eq, -decide_eq_false_iff_not]
    refine ⟨fun _ => none, (fun _ _ h => by cases h), ?_⟩
    have hx2 : spl ((List.map natD l).flatten ++ rest) i [] = ((l.eraseIdx i).map natD).flatten ++ (D.int .i64 x :: rest) := by
      rw [← hx, List.drop_eq_nil_of_le (by simp; omega)]; rfl
    have hsp2 := hsp (D.int .i64 x)
    rw [show l.length - 1 = i from by omega] at hsp2
    rw [hx2]
    refine ⟨by omega, ⟨(fun _ _ h => by cases h), ?_, ?_⟩, fun h => by omega⟩
    · rw [List.length_append, hel, List.length_cons]; omega
    · have e : spl (((l.eraseIdx i).map natD).flatten ++ D.int .i64 x :: rest) i [D.lit (Value.int IntKind.i64 0)] = _ := hsp2
      rw [e]; exact SLe.refl _
  · simp (maxSteps := 2000000) +contextual [hs, hne, hci, hc, hch, hfit, hle, h1, hm1, hm2, hm3, hm4, hm5, hm6, hm7, hm8, hm9, hm10, hx, -decide_eq_true_eq, -decide_eq_false_iff_not]
    refine ⟨fun _ => none, (fun _ _ h => by cases h), ?_⟩
    have e : spl (((l.eraseIdx i).map natD).flatten ++ D.int .i64 x :: rest) (l.length - 1) [D.lit (Value.int IntKind.i64 0)] = _ := hsp (D.int .i64 x)
    rw [e]
    exact ⟨by omega, (fun _ _ h => by cases h), hm11, SLe.refl _⟩
theorem c_wh1 (os : List Old) (w : Want) (i : Nat) (b3 b5 : Nat) (tok : Tok) (σ : Store) (h3 : σ b3 = some (.cells [.list (os.map oldD) tok])) (h5 : σ b5 = some (.cells (wantD w))) (hi : i < os.length) :
    HCalls Try.prog 142 [.int .i64 i, .ptr b3 0, .ptr b5 0] σ fun d s => d = .bool (decide (os[i]? = some ⟨w.tag, w.key⟩)) ∧ s = σ := by
  refine HCalls.start mixed false _ _ (fn := Try.f142) (by kernel_rfl) rfl (by kernel_rfl) rfl (by kernel_rfl) (by kernel_rfl) ?_
  obtain ⟨o, ho, ho2⟩ : ∃ o, os[i]? = some o ∧ os[i] = o := ⟨_, List.getElem?_eq_getElem hi, rfl⟩
  rw [wantD_eq] at h5
  simp (maxSteps := 2000000) +contextual [h3, h5, -decide_eq_true_eq, -decide_eq_false_iff_not]
  refine hdraw_intro (by kernel_rfl) ?_
  simp (maxSteps := 2000000) +contextual [h3, h5, hi, ho, ho2, oldD_def, oldD_length, -decide_eq_true_eq, -decide_eq_false_iff_not]
  obtain ⟨a, b⟩ := o
  by_cases h1 : a = w.tag <;> by_cases h2 : b = w.key <;> simp [h1, h2]
theorem c_idxN (l : List Nat) (d : D) (g : FuncId) (caps : List Value) (p : Nat → Bool) (σ : Store) (hv : View natD 1 σ l d) (ent : entersB Try.prog g = true) (hl : l.length ≤ 9223372036854775807)
    (hf : ∀ a ∈ l, HCalls Try.prog g (.int .i64 (a : Nat) :: caps.map .lit) σ fun d s => d = .bool (p a) ∧ s = σ) :
    HCalls Try.prog 141 [d, .lit (.func (.func g) #[] ⟨caps⟩)] σ fun d s => d = .int .i64 (idx p l) ∧ s = σ := by
  refine HCalls.start mixed false _ _ (fn := Try.f141) (by kernel_rfl) rfl (by kernel_rfl) rfl (by kernel_rfl) (by kernel_rfl) ?_
  have fin : ∀ (n i : Nat) (x : Nat), i + n = l.length → (∀ j, j < i → ∀ x, l[j]? = some x → p x = false) → l[i]? = some x →
      (p x = false → ∃ m, m < n ∧ ∃ i', i' + m = l.length ∧ IntKind.i64.wrap (↑i + 1) = ↑i' ∧ ∀ j, j < i' → ∀ x, l[j]? = some x → p x = false) ∧ (p x = true → (i : Int) = idx p l) := by
    intro n i x hi hno hx
    have hlt := (List.getElem?_eq_some_iff.1 hx).1
    refine ⟨fun hp => ⟨n - 1, by omega, i + 1, by omega, by rw [wrap_i64] <;> omega, fun j hj y hy => ?_⟩, fun hp => (idx_at hx hp hno).symm⟩
    by_cases hji : j = i
    · subst hji; rw [hx] at hy; injection hy with hy; subst hy; exact hp
    · exact hno j (by omega) y hy
  rcases hv with ⟨tok⟩ | ⟨b, c, rest, he⟩
  · simp (maxSteps := 2000000) +contextual [-decide_eq_true_eq, -decide_eq_false_iff_not]
    refine hloop_fix (fun n e => ∃ i : Nat, i + n = l.length ∧ e 0 = .list (l.map natD) tok ∧ e 1 = .lit (.func (.func g) #[] ⟨caps⟩) ∧ e 7 = .int .i64 l.length ∧ e 8 = .int .i64 i ∧ ∀ j, j < i → ∀ x, l[j]? = some x → p x = false) l.length ?_ ?_
    · exact ⟨0, by simp⟩
    · rintro n e ⟨i, hi, e0, e1, e7, e8, hno⟩
      simp (maxSteps := 2000000) +contextual [e0, e1, e7, e8, ent, natD_length, -decide_eq_true_eq, -decide_eq_false_iff_not]
      refine ⟨fun h4 => ⟨by simpa using h4, fun x hx => (hf x (List.mem_of_getElem? hx)).mono ?_⟩, fun h4 => ?_⟩
      · rintro d s ⟨rfl, rfl⟩
        simp (maxSteps := 2000000) +contextual [e0, e1, e7, e8, -decide_eq_true_eq, -decide_eq_false_iff_not]
        exact ⟨(fin n i x hi hno hx).2, (fin n i x hi hno hx).1⟩
      · have h4 := dec_f h4
        rw [idx_none fun j hj x hx => hno j (by omega) x hx]
  · simp (maxSteps := 2000000) +contextual [-decide_eq_true_eq, -decide_eq_false_iff_not]
    refine hloop_fix (fun n e => ∃ i : Nat, i + n = l.length ∧ e 0 = .lit (.slice (some ⟨b, 0, none⟩) l.length c) ∧ e 1 = .lit (.func (.func g) #[] ⟨caps⟩) ∧ e 7 = .int .i64 l.length ∧ e 8 = .int .i64 i ∧ ∀ j, j < i → ∀ x, l[j]? = some x → p x = false) l.length ?_ ?_
    · exact ⟨0, by simp⟩
    · rintro n e ⟨i, hi, e0, e1, e7, e8, hno⟩
      by_cases h4 : i < l.length
      · have hx : l[i]? = some l[i] := List.getElem?_eq_getElem h4
        have hfp : List.take 1 (List.drop i ((l.map natD).flatten ++ rest)) = [D.int .i64 (l[i] : Nat)] := by
          rw [flatN_drop l rest (by omega), List.drop_eq_getElem_cons h4]; rfl
        simp (maxSteps := 2000000) +contextual [e0, e1, e7, e8, ent, he, h4, hfp, -decide_eq_true_eq, -decide_eq_false_iff_not]
        refine ⟨by omega, (hf _ (List.getElem_mem h4)).mono ?_⟩
        rintro d s ⟨rfl, rfl⟩
        simp (maxSteps := 2000000) +contextual [e0, e1, e7, e8, -decide_eq_true_eq, -decide_eq_false_iff_not]
        exact ⟨(fin n i _ hi hno hx).2, (fin n i _ hi hno hx).1⟩
      · simp (maxSteps := 2000000) +contextual [e0, e7, e8, h4, -decide_eq_true_eq, -decide_eq_false_iff_not]
        rw [idx_none fun j hj x hx => hno j (by omega) x hx]

/-- Where, among what is left, what is wanted finds what it takes; -1: nowhere. -/
def whichP (os : List Old) (l : List Nat) (w : Want) : Int := match l with
  | [] => -1
  | i :: r => if w.kind = 3 ∨ w.kind = 2 ∧ (os.getD i ⟨⟨#[]⟩, ⟨#[]⟩⟩).tag = ⟨#[]⟩ ∨ w.kind = 1 ∧ w.key = ⟨#[]⟩ ∧ os.getD i ⟨⟨#[]⟩, ⟨#[]⟩⟩ = ⟨w.tag, ⟨#[]⟩⟩ then 0
    else if w.kind = 1 ∧ ¬ w.key = ⟨#[]⟩ then idx (fun i => decide (os[i]? = some ⟨w.tag, w.key⟩)) (i :: r) else -1
theorem c_which (os : List Old) (w : Want) (l : List Nat) (d : D) (tok : Tok) (σ : Store) (hv : View natD 1 σ l d) (hl : l.length ≤ 1048576) (hok : ∀ i ∈ l, i < os.length) (hne : ∀ es tk, l = [] ∨ d ≠ .list es tk) :
    HCalls Try.prog 116 [.list (os.map oldD) tok, d, .agg (wantD w)] σ fun d s => d = .int .i64 (whichP os l w) ∧ s = σ := by
  refine HCalls.start mixed false _ _ (fn := Try.f116) (by kernel_rfl) rfl (by kernel_rfl) rfl (by kernel_rfl) (by kernel_rfl) ?_
  cases hv with
  | list tk =>
    cases l with
    | nil =>
      simp (maxSteps := 2000000) +contextual [whichP, -decide_eq_true_eq, -decide_eq_false_iff_not]
    | cons i r =>
      rcases hne ((i :: r).map natD) tk with h | h
      · cases h
      · exact absurd rfl h
  | cells b c rest e =>
    cases l with
    | nil => 
      simp (maxSteps := 2000000) +contextual [whichP, -decide_eq_true_eq, -decide_eq_false_iff_not]
    | cons i r =>
      have hpos : ¬ (r.length : Int) + 1 = 0 := by omega
      have hi : i < os.length := hok i (by simp)
      obtain ⟨o, ho, ho2⟩ : ∃ o, os[i]? = some o ∧ os[i] = o := ⟨_, List.getElem?_eq_getElem hi, rfl⟩
      have hgd : os.getD i ⟨⟨#[]⟩, ⟨#[]⟩⟩ = o := by rw [List.getD_eq_getElem?_getD, ho]; rfl
      have hWP : whichP os (i :: r) w = if w.kind = 3 ∨ w.kind = 2 ∧ o.tag = ⟨#[]⟩ ∨ w.kind = 1 ∧ w.key = ⟨#[]⟩ ∧ o = ⟨w.tag, ⟨#[]⟩⟩ then 0
          else if w.kind = 1 ∧ ¬ w.key = ⟨#[]⟩ then idx (fun i => decide (os[i]? = some ⟨w.tag, w.key⟩)) (i :: r) else -1 := by
        rw [← hgd]; rfl
      rw [wantD_eq w]
      have e0 := e
      rw [List.map_cons, List.flatten_cons] at e
      simp only [natD_def, List.cons_append, List.nil_append] at e
      simp (maxSteps := 2000000) +contextual [e, hpos, -decide_eq_true_eq, -decide_eq_false_iff_not]
      intro b1 hb1 b2 n2 hb2
      have n1 : ¬ b = b1 := fun h => by subst h; rw [hb1] at e; cases e
      have n3 : ¬ b = b2 := fun h => by subst h; rw [hb2] at e; cases e
      have n2' : ¬ b1 = b2 := fun h => n2 h.symm
      refine hdraw_intro (by kernel_rfl) ?_
      simp (maxSteps := 2000000) +contextual [e, hpos, n1, n3, n2, n2', hi, ho, ho2, oldD_def, oldD_length, litsOf, litOf, -decide_eq_true_eq, -decide_eq_false_iff_not]
      intro b3 m2 m1 hb3
      have m3 : ¬ b = b3 := fun h => by subst h; rw [hb3] at e; cases e
      have m1' : ¬ b1 = b3 := fun h => m1 h.symm
      have m2' : ¬ b2 = b3 := fun h => m2 h.symm
      have hS : SLe σ (((σ.set b1 (HObj.cells [D.list (List.map oldD os) tok])).set b2 (HObj.cells [D.int IntKind.i64 w.kind, D.str w.tag, D.str w.key, D.str w.text, D.list (List.map attrD w.attrs) Tok.ro, D.list (List.map wantD w.kids) Tok.ro])).set b3 (HObj.cells [D.str o.tag, D.str o.key])) := by (intro xx oo hh; simp only [Store.set] at hh ⊢; grind)
      have hcall := c_idxN (i :: r) (.lit (.slice (some ⟨b, 0, none⟩) (r.length + 1) c)) 142 [.pointer (some ⟨b1, 0, none⟩), .pointer (some ⟨b2, 0, none⟩)] (fun i => decide (os[i]? = some ⟨w.tag, w.key⟩)) (((σ.set b1 (HObj.cells [D.list (List.map oldD os) tok])).set b2 (HObj.cells [D.int IntKind.i64 w.kind, D.str w.tag, D.str w.key, D.str w.text, D.list (List.map attrD w.attrs) Tok.ro, D.list (List.map wantD w.kids) Tok.ro])).set b3 (HObj.cells [D.str o.tag, D.str o.key]))
        (.cells b c rest (hS _ _ e0)) (by simp) (by omega) (fun a ha => c_wh1 os w a b1 b2 tok _ (by rw [Store.set_ne _ _ _ _ m1', Store.set_ne _ _ _ _ n2', Store.set_same]) (by rw [Store.set_ne _ _ _ _ m2', Store.set_same, wantD_eq]) (hok a ha))
      have n21 : ¬ (2 : Int) = 3 := by decide
      by_cases k3 : w.kind = 3
      · rw [if_pos (.inl k3)] at hWP
        simp (maxSteps := 2000000) +contextual [decide_eq_true k3, hWP, -decide_eq_true_eq, -decide_eq_false_iff_not]
        exact hS
      · by_cases k2 : w.kind = 2
        · have k1 : ¬ w.kind = 1 := by omega
          by_cases ht : o.tag = ⟨#[]⟩
          · rw [if_pos (.inr (.inl ⟨k2, ht⟩))] at hWP
            simp (maxSteps := 2000000) +contextual [decide_eq_false k3, decide_eq_true k2, decide_eq_true ht, hWP, -decide_eq_true_eq, -decide_eq_false_iff_not]
            exact hS
          · rw [if_neg (by simp [k2, ht]), if_neg (by simp [k2])] at hWP
            simp (maxSteps := 2000000) +contextual [decide_eq_false k3, decide_eq_true k2, decide_eq_false ht, decide_eq_false k1, hWP, -decide_eq_true_eq, -decide_eq_false_iff_not]
            exact hS
        · by_cases k1 : w.kind = 1
          · by_cases hke : w.key = ⟨#[]⟩
            · by_cases ht : o = ⟨w.tag, ⟨#[]⟩⟩
              · rw [if_pos (.inr (.inr ⟨k1, hke, ht⟩))] at hWP
                have ht1 : o.tag = w.tag := by rw [ht]
                have ht2 : o.key = ⟨#[]⟩ := by rw [ht]
                simp (maxSteps := 2000000) +contextual [decide_eq_false k3, decide_eq_false k2, decide_eq_true k1, decide_eq_true hke, decide_eq_true ht1, decide_eq_true ht2, hWP, -decide_eq_true_eq, -decide_eq_false_iff_not]
                exact hS
              · rw [if_neg (by simp [k1, hke, ht]), if_neg (by simp [hke])] at hWP
                by_cases ht1 : o.tag = w.tag
                · have ht2 : ¬ o.key = ⟨#[]⟩ := fun h => ht (by cases o; simp at ht1 h; simp [ht1, h])
                  simp (maxSteps := 2000000) +contextual [decide_eq_false k3, decide_eq_false k2, decide_eq_true k1, decide_eq_true hke, decide_eq_true ht1, decide_eq_false ht2, hWP, -decide_eq_true_eq, -decide_eq_false_iff_not]
                  exact hS
                · simp (maxSteps := 2000000) +contextual [decide_eq_false k3, decide_eq_false k2, decide_eq_true k1, decide_eq_true hke, decide_eq_false ht1, hWP, -decide_eq_true_eq, -decide_eq_false_iff_not]
                  exact hS
            · rw [if_neg (by simp [k1, hke]), if_pos ⟨k1, hke⟩] at hWP
              simp (maxSteps := 2000000) +contextual [decide_eq_false k3, decide_eq_false k2, decide_eq_true k1, decide_eq_false hke, hWP, -decide_eq_true_eq, -decide_eq_false_iff_not]
              refine hcall.mono ?_
              rintro d s ⟨rfl, rfl⟩
              simp (maxSteps := 2000000) +contextual [hWP, -decide_eq_true_eq, -decide_eq_false_iff_not]
              exact hS
          · rw [if_neg (by simp [k1, k2, k3]), if_neg (by simp [k1])] at hWP
            simp (maxSteps := 2000000) +contextual [decide_eq_false k3, decide_eq_false k2, decide_eq_false k1, hWP, -decide_eq_true_eq, -decide_eq_false_iff_not]
            exact hS
end Go.HL
/- Which of the old nodes becomes which: the plain law. -/
set_option linter.unusedVariables false
set_option linter.unusedSimpArgs false
set_option maxRecDepth 100000
set_option maxHeartbeats 1000000
namespace Go.HL
open Go.RowKit Go.Proofs

def intD (n : Int) : List D := [.int .i64 n]
theorem intD_length (n : Int) : (intD n).length = 1 := rfl
theorem intD_def (n : Int) : intD n = [.int .i64 n] := rfl
/-- What is left, which take which, what is kept. -/
structure MSt where
  left : List Nat
  take : List Int
  kept : List Nat
def mstep (os : List Old) (m : MSt) (w : Want) : MSt :=
  let at' := whichP os m.left w
  let t := if 0 ≤ at' then ((m.left.getD at'.toNat 0 : Nat) : Int) else -1
  let l := if 0 ≤ at' then m.left.eraseIdx at'.toNat else m.left
  if w.kind = 4 then ⟨[], m.take ++ [t], m.kept ++ l⟩ else ⟨l, m.take ++ [t], m.kept⟩
def mof (os : List Old) (ws : List Want) : MSt := ws.foldl (mstep os) ⟨List.range os.length, [], []⟩
def oAt (os : List Old) (i : Nat) : Old := os.getD i ⟨⟨#[]⟩, ⟨#[]⟩⟩
theorem oAt_def (os : List Old) (i : Nat) : os.getD i ⟨⟨#[]⟩, ⟨#[]⟩⟩ = oAt os i := rfl
/-- The one of what is left that is taken; -1: none. -/
def gAt (os : List Old) (w : Want) (l : List Nat) : Int := match l with
  | [] => -1
  | i :: r => if takesP w (oAt os i) true then i else match r.find? fun j => takesP w (oAt os j) false with
    | some j => j
    | none => -1
theorem idx_cons {α : Type} (p : α → Bool) (a : α) (r : List α) : idx p (a :: r) = if p a then 0 else if r.any p then (r.findIdx p : Int) + 1 else -1 := by
  unfold idx
  cases h : p a with
  | true => simp [List.findIdx_cons, h]
  | false => cases h2 : r.any p <;> simp [List.findIdx_cons, h, h2]
theorem find_at {α : Type} (p : α → Bool) (r : List α) (h : r.any p = true) : ∃ hl : r.findIdx p < r.length, r.find? p = some r[r.findIdx p] := by
  have hl : r.findIdx p < r.length := List.findIdx_lt_length_of_exists (by simpa using h)
  refine ⟨hl, ?_⟩
  induction r with
  | nil => simp at h
  | cons a r ih =>
    cases hp : p a with
    | true => simp [List.find?_cons, List.findIdx_cons, hp]
    | false =>
      have h' : r.any p = true := by simpa [hp] using h
      have hl' : r.findIdx p < r.length := List.findIdx_lt_length_of_exists (by simpa using h')
      have := ih h' hl'
      simp [List.find?_cons, List.findIdx_cons, hp, this]
theorem whichG (os : List Old) (w : Want) (l : List Nat) (hl : ∀ i ∈ l, i < os.length) :
    (whichP os l w = -1 ∧ gAt os w l = -1) ∨ ∃ p : Nat, whichP os l w = p ∧ ∃ h : p < l.length, gAt os w l = (l[p] : Nat) := by
  cases l with
  | nil => exact .inl ⟨rfl, rfl⟩
  | cons i r =>
    have key : ∀ j, j < os.length → decide (os[j]? = some ⟨w.tag, w.key⟩) = decide (oAt os j = ⟨w.tag, w.key⟩) := fun j hj => by
      rw [← oAt_def, List.getD_eq_getElem?_getD, List.getElem?_eq_getElem hj]; simp
    have hi := hl i (by simp)
    have ext : ∀ o : Old, o = ⟨w.tag, w.key⟩ ↔ o.tag = w.tag ∧ o.key = w.key := fun o => by cases o; simp
    have hWP : ∀ o, oAt os i = o → whichP os (i :: r) w = if w.kind = 3 ∨ w.kind = 2 ∧ o.tag = ⟨#[]⟩ ∨ w.kind = 1 ∧ w.key = ⟨#[]⟩ ∧ o = ⟨w.tag, ⟨#[]⟩⟩ then 0
        else if w.kind = 1 ∧ ¬ w.key = ⟨#[]⟩ then idx (fun i => decide (os[i]? = some ⟨w.tag, w.key⟩)) (i :: r) else -1 := by rintro o rfl; rfl
    have hG : ∀ o, oAt os i = o → gAt os w (i :: r) = if takesP w o true then (i : Int) else match r.find? fun j => takesP w (oAt os j) false with
        | some j => j
        | none => -1 := by rintro o rfl; rfl
    obtain ⟨o, ho⟩ : ∃ o, oAt os i = o := ⟨_, rfl⟩
    rw [hWP o ho, hG o ho]
    have hfalse : ∀ (f : Bool) , (∀ j ∈ r, takesP w (oAt os j) false = false) → (r.find? fun j => takesP w (oAt os j) false) = none := fun _ h => by
      rw [List.find?_eq_none]; intro j hj; simp [h j hj]
    by_cases k3 : w.kind = 3
    · right
      refine ⟨0, by simp [k3], by simp, ?_⟩
      simp [takesP, k3]
    · by_cases k2 : w.kind = 2
      · by_cases ht : o.tag = ⟨#[]⟩
        · right
          refine ⟨0, by simp [k2, ht], by simp, ?_⟩
          simp [takesP, k2, ht]
        · left
          refine ⟨by simp [k2, ht], ?_⟩
          rw [hfalse true (fun j _ => by simp [takesP, k2])]
          simp [takesP, k2, ht]
      · by_cases k1 : w.kind = 1
        · by_cases hk : w.key = ⟨#[]⟩
          · by_cases hoo : o = ⟨w.tag, ⟨#[]⟩⟩
            · right
              refine ⟨0, by simp [k1, hk, hoo], by simp, ?_⟩
              simp [takesP, k1, hk, hoo]
            · left
              refine ⟨by simp [k1, hk, hoo], ?_⟩
              rw [hfalse true (fun j _ => by simp [takesP, k1, hk])]
              have : ¬ (o.tag = w.tag ∧ o.key = ⟨#[]⟩) := fun h => hoo (by cases o; simp_all)
              simp [takesP, k1, hk]
              intro h1 h2
              exact absurd ⟨h1, h2⟩ this
          · have tk : ∀ (o : Old) f, takesP w o f = decide (o = ⟨w.tag, w.key⟩) := fun o f => by
              simp [takesP, k1, hk, ext, Bool.decide_and]
            have hw : (if w.kind = 3 ∨ w.kind = 2 ∧ o.tag = ⟨#[]⟩ ∨ w.kind = 1 ∧ w.key = ⟨#[]⟩ ∧ o = ⟨w.tag, ⟨#[]⟩⟩ then (0 : Int)
                else if w.kind = 1 ∧ ¬ w.key = ⟨#[]⟩ then idx (fun i => decide (os[i]? = some ⟨w.tag, w.key⟩)) (i :: r) else -1) = idx (fun i => decide (os[i]? = some ⟨w.tag, w.key⟩)) (i :: r) := by
              rw [if_neg (by simp [k1, hk]), if_pos ⟨k1, hk⟩]
            rw [hw, idx_cons, key i hi, ho]
            have hfun : (fun j => takesP w (oAt os j) false) = fun j => decide (oAt os j = ⟨w.tag, w.key⟩) := by funext j; rw [tk]
            rw [hfun, tk]
            by_cases hoo : o = ⟨w.tag, w.key⟩
            · right
              exact ⟨0, by simp [hoo], by simp, by simp [hoo]⟩
            · rw [if_neg (by simp [hoo])]
              have hany : (r.any fun i => decide (os[i]? = some ⟨w.tag, w.key⟩)) = r.any fun j => decide (oAt os j = ⟨w.tag, w.key⟩) := by
                rw [Bool.eq_iff_iff, List.any_eq_true, List.any_eq_true]
                constructor
                · rintro ⟨j, hj, h⟩; exact ⟨j, hj, by rw [← key j (hl j (by simp [hj]))]; exact h⟩
                · rintro ⟨j, hj, h⟩; exact ⟨j, hj, by rw [key j (hl j (by simp [hj]))]; exact h⟩
              cases ha : r.any fun i => decide (os[i]? = some ⟨w.tag, w.key⟩) with
              | false =>
                left
                rw [hany] at ha
                refine ⟨by simp, ?_⟩
                have : (r.find? fun j => decide (oAt os j = ⟨w.tag, w.key⟩)) = none := by
                  rw [List.find?_eq_none]; intro j hj
                  rw [List.any_eq_false] at ha
                  simpa using ha j hj
                rw [this]; simp [hoo]
              | true =>
                right
                have ha2 := ha
                rw [hany] at ha2
                obtain ⟨hl1, e1⟩ := find_at _ r ha2
                have hfi : (r.findIdx fun i => decide (os[i]? = some ⟨w.tag, w.key⟩)) = r.findIdx fun j => decide (oAt os j = ⟨w.tag, w.key⟩) := by
                  have : ∀ (r : List Nat), (∀ j ∈ r, j < os.length) → (r.findIdx fun i => decide (os[i]? = some ⟨w.tag, w.key⟩)) = r.findIdx fun j => decide (oAt os j = ⟨w.tag, w.key⟩) := by
                    intro r
                    induction r with
                    | nil => intro _; rfl
                    | cons a r ih => intro h; rw [List.findIdx_cons, List.findIdx_cons, key a (h a (by simp)), ih fun j hj => h j (by simp [hj])]
                  exact this r fun j hj => hl j (by simp [hj])
                refine ⟨(r.findIdx fun i => decide (os[i]? = some ⟨w.tag, w.key⟩)) + 1, by simp, by rw [hfi, List.length_cons]; omega, ?_⟩
                rw [e1]
                simp only [hoo, decide_false, Bool.false_eq_true, if_false]
                congr 1
                simp only [hfi, List.getElem_cons_succ]
        · left
          have tk : ∀ (o : Old) f, takesP w o f = false := fun o f => by simp [takesP, k1, k2, k3]
          refine ⟨by simp [k1, k2, k3], ?_⟩
          rw [hfalse true (fun j _ => tk _ _), tk]; simp

theorem erase_nd {l : List Nat} (h : l.Nodup) {p : Nat} (hp : p < l.length) : l.erase l[p] = l.eraseIdx p := by
  induction l generalizing p with
  | nil => simp at hp
  | cons a l ih =>
    cases p with
    | zero => simp
    | succ p =>
      have h2 := List.nodup_cons.1 h
      have hp' : p < l.length := by simpa using hp
      have hne : ¬ a = l[p] := fun e => h2.1 (by rw [e]; exact List.getElem_mem hp')
      simp only [List.getElem_cons_succ, List.eraseIdx_cons_succ]
      rw [List.erase_cons_tail (by simpa using hne), ih h2.2 hp']
/-- In order, each once. -/
def Srt (n : Nat) (l : List Nat) : Prop := l = (List.range n).filter fun k => decide (k ∈ l)
theorem Srt.nodup {n : Nat} {l : List Nat} (h : Srt n l) : l.Nodup := by rw [h]; exact List.nodup_range.filter _
theorem Srt.lt {n : Nat} {l : List Nat} (h : Srt n l) : ∀ i ∈ l, i < n := fun i hi => by rw [h] at hi; simpa using (List.mem_filter.1 hi).1
theorem Srt.nil (n : Nat) : Srt n [] := by simp [Srt]
theorem Srt.all (n : Nat) : Srt n (List.range n) := by
  unfold Srt
  symm
  rw [List.filter_eq_self]; intro a ha; simpa using ha
theorem Srt.erase {n : Nat} {l : List Nat} (h : Srt n l) (j : Nat) : Srt n (l.erase j) := by
  unfold Srt
  rw [h.nodup.erase_eq_filter]
  conv => lhs; rw [h]
  rw [List.filter_filter]
  congr 1
  funext k
  by_cases hk : k = j
  · subst hk; simp
  · simp [hk]
theorem Srt.len {n : Nat} {l : List Nat} (h : Srt n l) : l.length ≤ n := by
  have : l.length = ((List.range n).filter fun k => decide (k ∈ l)).length := by rw [← h]
  rw [this]; exact Nat.le_trans (List.length_filter_le _ _) (by simp)
/-- The walk over all places. -/
def rF (os : List Old) (w : Want) (l : List Nat) : List Nat → Bool → Int
  | [], _ => -1
  | k :: ks, f => if k ∈ l then (if takesP w (oAt os k) f then (k : Int) else rF os w l ks false) else rF os w l ks f
theorem rF_false (os : List Old) (w : Want) (l : List Nat) (ks : List Nat) : rF os w l ks false = match (ks.filter fun k => decide (k ∈ l)).find? fun j => takesP w (oAt os j) false with
    | some j => (j : Int)
    | none => -1 := by
  induction ks with
  | nil => rfl
  | cons k ks ih =>
    unfold rF
    by_cases hk : k ∈ l
    · cases ht : takesP w (oAt os k) false <;> simp [hk, ht, ih]
    · simp [hk, ih]
theorem rF_g (os : List Old) (w : Want) (l : List Nat) (ks : List Nat) : rF os w l ks true = gAt os w (ks.filter fun k => decide (k ∈ l)) := by
  induction ks with
  | nil => rfl
  | cons k ks ih =>
    unfold rF
    by_cases hk : k ∈ l
    · simp only [hk, if_true, decide_true, List.filter_cons_of_pos, gAt, rF_false]
    · simp [hk, ih]
theorem rF_srt (os : List Old) (w : Want) {n : Nat} {l : List Nat} (h : Srt n l) : rF os w l (List.range n) true = gAt os w l := by
  rw [rF_g, ← h]
theorem gAt_mem (os : List Old) (w : Want) (l : List Nat) : gAt os w l = -1 ∨ ∃ j ∈ l, gAt os w l = (j : Nat) := by
  cases l with
  | nil => exact .inl rfl
  | cons i r =>
    unfold gAt
    simp only
    split
    · exact .inr ⟨i, by simp, rfl⟩
    · cases h : r.find? fun j => takesP w (oAt os j) false with
      | none => exact .inl rfl
      | some j => exact .inr ⟨j, by simp [List.mem_of_find?_eq_some h], rfl⟩
theorem mstep_g (os : List Old) (m : MSt) (w : Want) (h : Srt os.length m.left) :
    mstep os m w = (let g := gAt os w m.left; let l := if 0 ≤ g then m.left.erase g.toNat else m.left; if w.kind = 4 then ⟨[], m.take ++ [g], m.kept ++ l⟩ else ⟨l, m.take ++ [g], m.kept⟩) := by
  unfold mstep
  rcases whichG os w m.left h.lt with ⟨e1, e2⟩ | ⟨p, e1, hp, e2⟩
  · rw [e1, e2]; rfl
  · rw [e1, e2]
    have h1 : m.left.eraseIdx p = m.left.erase m.left[p] := (erase_nd h.nodup hp).symm
    simp [List.getD_eq_getElem?_getD, hp, h1]
theorem mstep_srt (os : List Old) (m : MSt) (w : Want) (h : Srt os.length m.left) : Srt os.length (mstep os m w).left := by
  rw [mstep_g os m w h]
  simp only
  split
  · exact Srt.nil _
  · split
    · exact h.erase _
    · exact h
end Go.HL
/- Which of the old nodes becomes which: all that is wanted. -/
set_option linter.unusedVariables false
set_option linter.unusedSimpArgs false
set_option maxRecDepth 100000
set_option maxHeartbeats 1000000
namespace Go.HL
open Go.RowKit Go.Proofs

/-- Blocks that differ. -/
structure Dis3 (oL oT oK : Option Nat) (b4 b7 : Nat) : Prop where
  lt : ∀ b, oL = some b → oT ≠ some b
  lk : ∀ b, oL = some b → oK ≠ some b
  tk : ∀ b, oT = some b → oK ≠ some b
  l4 : oL ≠ some b4
  l7 : oL ≠ some b7
  t4 : oT ≠ some b4
  t7 : oT ≠ some b7
  k4 : oK ≠ some b4
  k7 : oK ≠ some b7
  n47 : b4 ≠ b7
theorem c_mof0 (os : List Old) (ws : List Want) (t0 t1 : Tok) (σ : Store) (hos : os.length ≤ 1048576) (hws : ws.length ≤ 1048576) :
    HCalls Try.prog 67 [.list (os.map oldD) t0, .list (ws.map wantD) t1] σ fun d s => ∃ dT dK dL oT oK oL, d = .agg [dT, dK, dL] ∧ OwV intD 1 σ (mof os ws).take dT oT s ∧ OwV natD 1 σ (mof os ws).kept dK oK s ∧ OwV natD 1 σ (mof os ws).left dL oL s ∧
      (∀ b, oT = some b → oK ≠ some b ∧ oL ≠ some b) ∧ (∀ b, oK = some b → oL ≠ some b) ∧ SLe σ s := by
  refine HCalls.start mixed true _ _ (fn := Try.f67) (by kernel_rfl) rfl (by kernel_rfl) rfl (by kernel_rfl) (by kernel_rfl) ?_
  simp (maxSteps := 2000000) +contextual [-decide_eq_true_eq, -decide_eq_false_iff_not]
  intro b4 hb4
  refine hloop_intro (fun n e s => ∃ (i : Nat) (dL : D) (oL : Option Nat), i + n = os.length ∧ e 0 = .list (os.map oldD) t0 ∧ e 1 = .list (ws.map wantD) t1 ∧ e 4 = .ptr b4 0 ∧ e 5 = dL ∧ e 13 = .int .i64 os.length ∧ e 14 = .int .i64 i ∧ OwV natD 1 (σ.set b4 (.cells [.list [] .nil, .list [] .nil, .list [] .nil])) (List.range i) dL oL s ∧ SLe (σ.set b4 (.cells [.list [] .nil, .list [] .nil, .list [] .nil])) s) os.length ?_ ?_
  · refine ⟨0, .list [] .nil, none, by simp, ?_⟩
    simp (maxSteps := 2000000) +contextual [-decide_eq_true_eq, -decide_eq_false_iff_not]
    exact .nil _ rfl
  · rintro n e s ⟨i, dL, oL, hi, e0, e1, e4, e5, e13, e14, hL, hs⟩
    by_cases h4 : i < os.length
    · simp (maxSteps := 2000000) +contextual [e0, e1, e4, e5, e13, e14, h4, -decide_eq_true_eq, -decide_eq_false_iff_not]
      intro b hb
      refine ⟨hL.sized, ?_⟩
      refine (hL.mono ((SLe.refl s).set hb _)).append natD_length (hs.set hb _) (z := [.int .i64 0]) rfl rfl rfl [i] rfl (by simp; omega) (by simp; omega) ?_
      intro d' o' s' g1 g2 g3 g4
      simp (maxSteps := 2000000) +contextual [e0, e1, e4, e5, e13, e14, -decide_eq_true_eq, -decide_eq_false_iff_not]
      exact ⟨n - 1, by omega, s', SLe.refl _, i + 1, by omega, by rw [wrap_i64] <;> omega, ⟨o', by rw [List.range_succ]; exact g4⟩, g1⟩
    · have hin : i = os.length := by omega
      simp (maxSteps := 2000000) +contextual [e0, e1, e4, e5, e13, e14, h4, -decide_eq_true_eq, -decide_eq_false_iff_not]
      intro b7 hb7
      have hz4 : s b4 = some (.cells [.list [] .nil, .list [] .nil, .list [] .nil]) := hs _ _ (Store.set_same _ _ _)
      have hss : SLe σ s := ((SLe.refl σ).set hb4 _).trans hs
      have n47 : b4 ≠ b7 := fun h => by subst h; rw [hz4] at hb7; cases hb7
      have hb7σ : σ b7 = none := hss.none hb7
      rw [hin] at hL
      have hL' := (hL.low ((SLe.refl σ).set hb4 _)).mono ((SLe.refl s).set hb7 (.cells [.list [] .nil, .list [] .nil, .list [] .nil]))
      refine hloop_intro (fun n e s => ∃ (i : Nat) (m : MSt) (dL dT dK : D) (oL oT oK : Option Nat), i + n = ws.length ∧ e 0 = .list (os.map oldD) t0 ∧ e 22 = .list (ws.map wantD) t1 ∧ e 23 = .int .i64 ws.length ∧ e 24 = .int .i64 i ∧ e 4 = .ptr b4 0 ∧ e 5 = dL ∧ e 7 = .ptr b7 0 ∧
        s b4 = some (.cells [.list [] .nil, .list [] .nil, .list [] .nil]) ∧ s b7 = some (.cells [dT, dK, .list [] .nil]) ∧ OwV natD 1 σ m.left dL oL s ∧ OwV intD 1 σ m.take dT oT s ∧ OwV natD 1 σ m.kept dK oK s ∧ Dis3 oL oT oK b4 b7 ∧ SLe σ s ∧
        Sm (mof os ws) ((ws.drop i).foldl (mstep os) m) ∧ m.take.length = i ∧ m.left.length + m.kept.length ≤ os.length ∧ ∀ x ∈ m.left, x < os.length) ws.length ?_ ?_
      · refine ⟨0, ⟨List.range os.length, [], []⟩, dL, .list [] .nil, .list [] .nil, oL, none, none, by simp, ?_⟩
        simp (maxSteps := 2000000) +contextual [e0, e1, e4, e5, n47, hz4, hL', -decide_eq_true_eq, -decide_eq_false_iff_not]
        refine ⟨.nil _ rfl, .nil _ rfl, ⟨fun _ _ => by simp, fun _ _ => by simp, fun _ _ => by simp, fun h => ?_, fun h => (hL.new h).2 hb7, by simp, by simp, by simp, by simp, n47⟩, hss.set hb7 _, rfl⟩
        have := (hL.new h).1
        rw [Store.set_same] at this; cases this
      · rintro n e s ⟨i, m, dL, dT, dK, oL, oT, oK, hi, e0, e22, e23, e24, e4, e5, e7, hb4s, hb7s, hL, hT, hK, hd, hss, hsm, htl, hlk, hlo⟩
        by_cases h4 : i < ws.length
        · obtain ⟨w, hw, hw2⟩ : ∃ w, ws[i]? = some w ∧ ws[i] = w := ⟨_, List.getElem?_eq_getElem h4, rfl⟩
          have hdrop : ws.drop i = w :: ws.drop (i + 1) := by rw [List.drop_eq_getElem_cons h4, hw2]
          rw [hdrop] at hsm
          have hsm : mof os ws = (ws.drop (i + 1)).foldl (mstep os) (mstep os m w) := hsm
          have fin : ∀ (m' : MSt) (dT' dK' dL' : D) (oL' oT' oK' : Option Nat) (S : Store), m' = mstep os m w → S b4 = some (.cells [.list [] .nil, .list [] .nil, .list [] .nil]) → S b7 = some (.cells [dT', dK', .list [] .nil]) →
              OwV natD 1 σ m'.left dL' oL' S → OwV intD 1 σ m'.take dT' oT' S → OwV natD 1 σ m'.kept dK' oK' S → Dis3 oL' oT' oK' b4 b7 → SLe σ S → m'.take.length = i + 1 → m'.left.length + m'.kept.length ≤ os.length → (∀ x ∈ m'.left, x < os.length) →
              ∃ m, m < n ∧ ∃ x, SLe x S ∧ ∃ i_1 : Nat, i_1 + m = ws.length ∧ IntKind.i64.wrap (↑i + 1) = ↑i_1 ∧ x b4 = some (.cells [.list [] .nil, .list [] .nil, .list [] .nil]) ∧ ∃ (x_1 : MSt) (x_2 x_3 : D), x b7 = some (.cells [x_2, x_3, .list [] .nil]) ∧
                ∃ x_4, OwV natD 1 σ x_1.left dL' x_4 x ∧ ∃ x_5, OwV intD 1 σ x_1.take x_2 x_5 x ∧ ∃ x_6, OwV natD 1 σ x_1.kept x_3 x_6 x ∧ Dis3 x_4 x_5 x_6 b4 b7 ∧ SLe σ x ∧ Sm (mof os ws) (List.foldl (mstep os) x_1 (List.drop i_1 ws)) ∧ x_1.take.length = i_1 ∧ x_1.left.length + x_1.kept.length ≤ os.length ∧ ∀ x, x ∈ x_1.left → x < os.length :=
            fun m' dT' dK' dL' oL' oT' oK' S f1 f2 f3 f4 f5 f6 f7 f8 f9 f10 f11 => ⟨n - 1, by omega, S, SLe.refl _, i + 1, by omega, by rw [wrap_i64] <;> omega, f2, m', dT', dK', f3, oL', f4, oT', f5, oK', f6, f7, f8, (by show mof os ws = _; rw [hsm, f1]), f9, f10, f11⟩
          simp (maxSteps := 2000000) +contextual [e0, e22, e23, e24, e4, e5, e7, h4, hw, hw2, wantD_length, -decide_eq_true_eq, -decide_eq_false_iff_not]
          intro b9 hb9
          have hs9 := (SLe.refl s).set hb9 (.cells (wantD w))
          have hd9 : ¬ b9 = b7 := fun h => by subst h; rw [hb7s] at hb9; cases hb9
          refine (c_which os w m.left dL t0 _ (hL.mono hs9).view (by omega) hlo fun es tk => ?_).mono ?_
          · cases hL with
            | nil _ h => exact .inl h
            | cells => exact .inr (by simp)
          rintro d s' ⟨rfl, rfl⟩
          simp (maxSteps := 2000000) +contextual [e0, e22, e23, e24, e4, e5, e7, -decide_eq_true_eq, -decide_eq_false_iff_not]
          have hd9' : ¬ b7 = b9 := fun h => hd9 h.symm
          have hd94 : ¬ b9 = b4 := fun h => by subst h; rw [hb4s] at hb9; cases hb9
          have hd94' : ¬ b4 = b9 := fun h => hd94 h.symm
          have hmono := hs9
          rcases whichG os w m.left hlo with ⟨hw0, -⟩ | ⟨p, hw0, hp, -⟩
          · have hst : mstep os m w = if w.kind = 4 then ⟨[], m.take ++ [-1], m.kept ++ m.left⟩ else ⟨m.left, m.take ++ [-1], m.kept⟩ := by simp [mstep, hw0]
            obtain ⟨S0, hS0⟩ : ∃ S0, S0 = s.set b9 (.cells (wantD w)) := ⟨_, rfl⟩
            rw [← hS0]
            have f7 : S0 b7 = some (.cells [dT, dK, .list [] .nil]) := by rw [hS0]; exact hs9 _ _ hb7s
            have f4 : S0 b4 = some (.cells [.list [] .nil, .list [] .nil, .list [] .nil]) := by rw [hS0]; exact hs9 _ _ hb4s
            have f9 : S0 b9 = some (.cells (wantD w)) := by rw [hS0, Store.set_same]
            have fL : OwV natD 1 σ m.left dL oL S0 := by rw [hS0]; exact hL.mono hs9
            have fT : OwV intD 1 σ m.take dT oT S0 := by rw [hS0]; exact hT.mono hs9
            have fK : OwV natD 1 σ m.kept dK oK S0 := by rw [hS0]; exact hK.mono hs9
            have fs : SLe σ S0 := by rw [hS0]; exact hss.trans hs9
            clear hS0
            simp (maxSteps := 2000000) +contextual [hw0, f7, e0, e22, e23, e24, e4, e5, e7, -decide_eq_true_eq, -decide_eq_false_iff_not]
            intro b10 hb10
            have hs10 : SLe S0 (S0.set b10 (.cells [.int .i64 (-1)])) := (SLe.refl S0).set hb10 _
            refine ⟨fT.sized, ?_⟩
            refine (fT.mono hs10).append intD_length (fs.trans hs10) (z := [.int .i64 0]) rfl rfl rfl [(-1)] rfl (by simp; omega) (by simp; omega) ?_
            intro dT' oT' s' g1 g2 g3 g4
            have k7 : s' b7 = some (.cells [dT, dK, .list [] .nil]) := g2 b7 _ hd.t7 (hs10 _ _ f7)
            have k4 : s' b4 = some (.cells [.list [] .nil, .list [] .nil, .list [] .nil]) := g2 b4 _ hd.t4 (hs10 _ _ f4)
            have k9 : oT ≠ some b9 := fun h => (hT.new h).2 hb9
            have kw : s' b9 = some (.cells (wantD w)) := g2 b9 _ k9 (hs10 _ _ f9)
            rw [wantD_eq] at kw
            have hwd := g4.word
            have hLs := (fL.mono hs10).keep g2 fun b e h => hd.lt b e h
            have hKs := (fK.mono hs10).keep g2 fun b e h => hd.tk b h e
            have hnw : ∀ b, oT' = some b → oT = some b ∨ S0 b = none := fun b e => by
              rcases g3 b e with h | h
              · exact .inl h
              · exact .inr (hs10.none h)
            have hT7 : oT' ≠ some b7 := fun h => (hnw b7 h).elim hd.t7 fun h => by rw [f7] at h; cases h
            have hT4 : oT' ≠ some b4 := fun h => (hnw b4 h).elim hd.t4 fun h => by rw [f4] at h; cases h
            have hd' : Dis3 oL oT' oK b4 b7 := ⟨fun b e h => (hnw b h).elim (hd.lt b e) (fL.new e).2, hd.lk, fun b h e => (hnw b h).elim (fun h => hd.tk b h e) (fK.new e).2, hd.l4, hd.l7, hT4, hT7, hd.k4, hd.k7, n47⟩
            by_cases k4' : w.kind = 4
            · rw [if_pos k4'] at hst
              rcases hwd with ⟨bT, nT, cT, hT'⟩ | hT'
              all_goals
                rw [hT']
                rw [hT'] at g4
                simp (maxSteps := 2000000) +contextual [e0, e22, e23, e24, e4, e5, e7, k7, kw, decide_eq_true k4', hd9, hd9', -decide_eq_true_eq, -decide_eq_false_iff_not]
                have hKq := fun X => hKs.keep (But.set (b := b7) X) fun b e h => hd.k7 (e.trans h.symm)
                have hLq := fun X => hLs.keep (But.set (b := b7) X) fun b e h => hd.l7 (e.trans h.symm)
                have hTq := fun X => g4.keep (But.set (b := b7) X) fun b e h => hT7 (e.trans h.symm)
                refine ⟨⟨hK.sized, hLs.sized⟩, ?_⟩
                rw [(hLq _).src natD_length]
                simp (maxSteps := 2000000) +contextual [-decide_eq_true_eq, -decide_eq_false_iff_not]
                refine (hKq _).append natD_length (g1.put hb7σ _) (z := [.int .i64 0]) rfl rfl rfl m.left rfl (by simp; omega) (by omega) ?_
                intro dK' oK' s'' q1 q2 q3 q4
                have kk7 := q2 b7 _ hd.k7 (Store.set_same _ _ _)
                have kk4 := q2 b4 _ hd.k4 ((Store.set_ne _ _ _ _ n47).trans k4)
                have hwk := q4.word
                have hTs := (hTq _).keep q2 fun b e h => hd'.tk b e h
                have hnk : ∀ b, oK' = some b → oK = some b ∨ (b ≠ b7 ∧ s' b = none) := fun b e => by
                  rcases q3 b e with h | h
                  · exact .inl h
                  · refine .inr ?_
                    by_cases hb : b = b7
                    · subst hb; rw [Store.set_same] at h; cases h
                    · rw [Store.set_ne _ _ _ _ hb] at h; exact ⟨hb, h⟩
                have hK7 : oK' ≠ some b7 := fun h => (hnk b7 h).elim hd.k7 fun h => h.1 rfl
                have hK4 : oK' ≠ some b4 := fun h => (hnk b4 h).elim hd.k4 fun h => by rw [k4] at h; cases h.2
                have hd2 : Dis3 none oT' oK' b4 b7 := ⟨fun _ e => by simp at e, fun _ e => by simp at e, fun b e h => (hnk b h).elim (hd'.tk b e) fun h => (g4.new e).2 h.2, by simp, by simp, hT4, hT7, hK4, hK7, n47⟩
                rcases hwk with ⟨bK, nK, cK, hK'⟩ | hK'
                all_goals
                  rw [hK']
                  rw [hK'] at q4
                  simp (maxSteps := 2000000) +contextual [e0, e22, e23, e24, e4, e5, e7, kk7, -decide_eq_true_eq, -decide_eq_false_iff_not]
                  refine fin ⟨[], m.take ++ [(-1)], m.kept ++ m.left⟩ _ _ _ none oT' oK' _ hst.symm (by rw [Store.set_ne _ _ _ _ n47]; exact kk4) (Store.set_same _ _ _) (.nil _ rfl) (hTs.keep (But.set (b := b7) _) fun b e h => hT7 (e.trans h.symm)) (q4.keep (But.set (b := b7) _) fun b e h => hK7 (e.trans h.symm)) hd2 (q1.put hb7σ _) (by simp [htl]) (by simp; omega) (fun _ h => by simp at h)
            · rw [if_neg k4'] at hst
              rcases hwd with ⟨bT, nT, cT, hT'⟩ | hT'
              all_goals
                rw [hT']
                rw [hT'] at g4
                simp (maxSteps := 2000000) +contextual [e0, e22, e23, e24, e4, e5, e7, k7, kw, decide_eq_false k4', hd9, hd9', -decide_eq_true_eq, -decide_eq_false_iff_not]
                refine fin ⟨m.left, m.take ++ [(-1)], m.kept⟩ _ dK _ oL oT' oK _ hst.symm (by rw [Store.set_ne _ _ _ _ n47]; exact k4) (Store.set_same _ _ _) ((hLs.keep (But.set (b := b7) _) fun b e h => hd.l7 (e.trans h.symm))) (g4.keep (But.set (b := b7) _) fun b e h => hT7 (e.trans h.symm)) (hKs.keep (But.set (b := b7) _) fun b e h => hd.k7 (e.trans h.symm)) hd' (g1.put hb7σ _) (by simp [htl]) (by simp; omega) hlo
          · have hpl : ¬ m.left = [] := fun h => by rw [h] at hp; simp at hp
            have hst : mstep os m w = if w.kind = 4 then ⟨[], m.take ++ [((m.left[p] : Nat) : Int)], m.kept ++ m.left.eraseIdx p⟩ else ⟨m.left.eraseIdx p, m.take ++ [((m.left[p] : Nat) : Int)], m.kept⟩ := by
              simp [mstep, hw0, List.getD_eq_getElem?_getD, hp]
            have hlt : (m.left.eraseIdx p).length = m.left.length - 1 := by simp [List.length_eraseIdx, hp]
            have hlo' : ∀ x ∈ m.left.eraseIdx p, x < os.length := fun x hx => hlo x (List.mem_of_mem_eraseIdx hx)
            cases hL with
            | nil _ h => exact absurd h hpl
            | cells bL cL rest _ hbL hsL hc hm hr =>
              have hdx : List.take 1 (List.drop p ((m.left.map natD).flatten ++ rest)) = [D.int .i64 (m.left[p] : Nat)] := by
                rw [flatN_drop _ rest (by omega), List.drop_eq_getElem_cons hp]; rfl
              have nL9 : ¬ bL = b9 := fun h => by subst h; rw [hsL] at hb9; cases hb9
              have nL9' : ¬ b9 = bL := fun h => nL9 h.symm
              have hwp : IntKind.i64.wrap ((p : Int) + 1) = (p : Int) + 1 := by rw [wrap_i64] <;> omega
              simp (maxSteps := 2000000) +contextual [hw0, hsL, nL9, hp, hdx, hwp, e0, e22, e23, e24, e4, e5, e7, -decide_eq_true_eq, -decide_eq_false_iff_not]
              refine ⟨by omega, ?_⟩
              refine (c_del bL m.left cL p rest _ (by rw [Store.set_ne _ _ _ _ nL9]; exact hsL) hp (by omega) hc hm (by omega)).mono ?_
              rintro d s' ⟨rfl, rfl⟩
              simp (maxSteps := 2000000) +contextual [e0, e22, e23, e24, e4, e5, e7, -decide_eq_true_eq, -decide_eq_false_iff_not]
              have lB : But (some bL) s ((s.set b9 (.cells (wantD w))).set bL (.cells (((m.left.eraseIdx p).map natD).flatten ++ (.int .i64 0 :: rest)))) := (hs9.but _).trans (But.set _)
              obtain ⟨S0, hS0⟩ : ∃ S0, S0 = (s.set b9 (.cells (wantD w))).set bL (.cells (((m.left.eraseIdx p).map natD).flatten ++ (.int .i64 0 :: rest))) := ⟨_, rfl⟩
              obtain ⟨dL2, hdL2⟩ : ∃ d : D, d = .lit (.slice (some ⟨bL, 0, none⟩) (m.left.length - 1) cL) := ⟨_, rfl⟩
              rw [← hS0] at lB ⊢
              rw [← hdL2]
              have f7 : S0 b7 = some (.cells [dT, dK, .list [] .nil]) := lB _ _ hd.l7 hb7s
              have f4 : S0 b4 = some (.cells [.list [] .nil, .list [] .nil, .list [] .nil]) := lB _ _ hd.l4 hb4s
              have f9 : S0 b9 = some (.cells (wantD w)) := by rw [hS0, Store.set_ne _ _ _ _ nL9', Store.set_same]
              have fL : OwV natD 1 σ (m.left.eraseIdx p) dL2 (some bL) S0 := by
                rw [hdL2, ← hlt]
                exact .cells bL cL (.int .i64 0 :: rest) S0 hbL (by rw [hS0, Store.set_same]) (by omega) hm (by simp; omega)
              have fT : OwV intD 1 σ m.take dT oT S0 := hT.keep lB fun b e h => hd.lt b (h.trans rfl) e
              have fK : OwV natD 1 σ m.kept dK oK S0 := hK.keep lB fun b e h => hd.lk b (h.trans rfl) e
              have fs : SLe σ S0 := by rw [hS0]; exact (hss.trans hs9).put hbL _
              clear hS0 lB hdL2
              have hlo := hlo'
              simp (maxSteps := 2000000) +contextual [hw0, f7, e0, e22, e23, e24, e4, e5, e7, -decide_eq_true_eq, -decide_eq_false_iff_not]
              intro b10 hb10
              have hs10 : SLe S0 (S0.set b10 (.cells [.int .i64 ((m.left[p] : Nat) : Int)])) := (SLe.refl S0).set hb10 _
              refine ⟨fT.sized, ?_⟩
              refine (fT.mono hs10).append intD_length (fs.trans hs10) (z := [.int .i64 0]) rfl rfl rfl [((m.left[p] : Nat) : Int)] rfl (by simp; omega) (by simp; omega) ?_
              intro dT' oT' s' g1 g2 g3 g4
              have k7 : s' b7 = some (.cells [dT, dK, .list [] .nil]) := g2 b7 _ hd.t7 (hs10 _ _ f7)
              have k4 : s' b4 = some (.cells [.list [] .nil, .list [] .nil, .list [] .nil]) := g2 b4 _ hd.t4 (hs10 _ _ f4)
              have k9 : oT ≠ some b9 := fun h => (hT.new h).2 hb9
              have kw : s' b9 = some (.cells (wantD w)) := g2 b9 _ k9 (hs10 _ _ f9)
              rw [wantD_eq] at kw
              have hwd := g4.word
              have hLs := (fL.mono hs10).keep g2 fun b e h => hd.lt b e h
              have hKs := (fK.mono hs10).keep g2 fun b e h => hd.tk b h e
              have hnw : ∀ b, oT' = some b → oT = some b ∨ S0 b = none := fun b e => by
                rcases g3 b e with h | h
                · exact .inl h
                · exact .inr (hs10.none h)
              have hT7 : oT' ≠ some b7 := fun h => (hnw b7 h).elim hd.t7 fun h => by rw [f7] at h; cases h
              have hT4 : oT' ≠ some b4 := fun h => (hnw b4 h).elim hd.t4 fun h => by rw [f4] at h; cases h
              have hd' : Dis3 (some bL) oT' oK b4 b7 := ⟨fun b e h => (hnw b h).elim (hd.lt b e) (fL.new e).2, hd.lk, fun b h e => (hnw b h).elim (fun h => hd.tk b h e) (fK.new e).2, hd.l4, hd.l7, hT4, hT7, hd.k4, hd.k7, n47⟩
              by_cases k4' : w.kind = 4
              · rw [if_pos k4'] at hst
                rcases hwd with ⟨bT, nT, cT, hT'⟩ | hT'
                all_goals
                  rw [hT']
                  rw [hT'] at g4
                  simp (maxSteps := 2000000) +contextual [e0, e22, e23, e24, e4, e5, e7, k7, kw, decide_eq_true k4', hd9, hd9', -decide_eq_true_eq, -decide_eq_false_iff_not]
                  have hKq := fun X => hKs.keep (But.set (b := b7) X) fun b e h => hd.k7 (e.trans h.symm)
                  have hLq := fun X => hLs.keep (But.set (b := b7) X) fun b e h => hd.l7 (e.trans h.symm)
                  have hTq := fun X => g4.keep (But.set (b := b7) X) fun b e h => hT7 (e.trans h.symm)
                  refine ⟨⟨hK.sized, hLs.sized⟩, ?_⟩
                  rw [(hLq _).src natD_length]
                  simp (maxSteps := 2000000) +contextual [-decide_eq_true_eq, -decide_eq_false_iff_not]
                  refine (hKq _).append natD_length (g1.put hb7σ _) (z := [.int .i64 0]) rfl rfl rfl (m.left.eraseIdx p) rfl (by simp; omega) (by omega) ?_
                  intro dK' oK' s'' q1 q2 q3 q4
                  have kk7 := q2 b7 _ hd.k7 (Store.set_same _ _ _)
                  have kk4 := q2 b4 _ hd.k4 ((Store.set_ne _ _ _ _ n47).trans k4)
                  have hwk := q4.word
                  have hTs := (hTq _).keep q2 fun b e h => hd'.tk b e h
                  have hnk : ∀ b, oK' = some b → oK = some b ∨ (b ≠ b7 ∧ s' b = none) := fun b e => by
                    rcases q3 b e with h | h
                    · exact .inl h
                    · refine .inr ?_
                      by_cases hb : b = b7
                      · subst hb; rw [Store.set_same] at h; cases h
                      · rw [Store.set_ne _ _ _ _ hb] at h; exact ⟨hb, h⟩
                  have hK7 : oK' ≠ some b7 := fun h => (hnk b7 h).elim hd.k7 fun h => h.1 rfl
                  have hK4 : oK' ≠ some b4 := fun h => (hnk b4 h).elim hd.k4 fun h => by rw [k4] at h; cases h.2
                  have hd2 : Dis3 none oT' oK' b4 b7 := ⟨fun _ e => by simp at e, fun _ e => by simp at e, fun b e h => (hnk b h).elim (hd'.tk b e) fun h => (g4.new e).2 h.2, by simp, by simp, hT4, hT7, hK4, hK7, n47⟩
                  rcases hwk with ⟨bK, nK, cK, hK'⟩ | hK'
                  all_goals
                    rw [hK']
                    rw [hK'] at q4
                    simp (maxSteps := 2000000) +contextual [e0, e22, e23, e24, e4, e5, e7, kk7, -decide_eq_true_eq, -decide_eq_false_iff_not]
                    refine fin ⟨[], m.take ++ [((m.left[p] : Nat) : Int)], m.kept ++ (m.left.eraseIdx p)⟩ _ _ _ none oT' oK' _ hst.symm (by rw [Store.set_ne _ _ _ _ n47]; exact kk4) (Store.set_same _ _ _) (.nil _ rfl) (hTs.keep (But.set (b := b7) _) fun b e h => hT7 (e.trans h.symm)) (q4.keep (But.set (b := b7) _) fun b e h => hK7 (e.trans h.symm)) hd2 (q1.put hb7σ _) (by simp [htl]) (by simp; omega) (fun _ h => by simp at h)
              · rw [if_neg k4'] at hst
                rcases hwd with ⟨bT, nT, cT, hT'⟩ | hT'
                all_goals
                  rw [hT']
                  rw [hT'] at g4
                  simp (maxSteps := 2000000) +contextual [e0, e22, e23, e24, e4, e5, e7, k7, kw, decide_eq_false k4', hd9, hd9', -decide_eq_true_eq, -decide_eq_false_iff_not]
                  refine fin ⟨(m.left.eraseIdx p), m.take ++ [((m.left[p] : Nat) : Int)], m.kept⟩ _ dK _ (some bL) oT' oK _ hst.symm (by rw [Store.set_ne _ _ _ _ n47]; exact k4) (Store.set_same _ _ _) ((hLs.keep (But.set (b := b7) _) fun b e h => hd.l7 (e.trans h.symm))) (g4.keep (But.set (b := b7) _) fun b e h => hT7 (e.trans h.symm)) (hKs.keep (But.set (b := b7) _) fun b e h => hd.k7 (e.trans h.symm)) hd' (g1.put hb7σ _) (by simp [htl]) (by simp; omega) hlo
        · have hi2 : ws.drop i = [] := List.drop_eq_nil_of_le (by omega)
          rw [hi2] at hsm
          have hsm : mof os ws = m := hsm
          rw [hsm]
          have n74 : ¬ b7 = b4 := fun h => n47 h.symm
          have hL0 := hL
          cases hL with
          | nil _ hl0 =>
            simp (maxSteps := 2000000) +contextual [e0, e22, e23, e24, e4, e5, e7, h4, hb4s, hb7s, n47, n74, -decide_eq_true_eq, -decide_eq_false_iff_not]
            exact ⟨_, SLe.refl _, dT, dK, _, ⟨rfl, rfl, rfl⟩, oT, (hT.keep (But.set (b := b7) _) (fun b e h => hd.t7 (e.trans h.symm))).keep (But.set (b := b4) _) (fun b e h => hd.t4 (e.trans h.symm)),
              oK, (hK.keep (But.set (b := b7) _) (fun b e h => hd.k7 (e.trans h.symm))).keep (But.set (b := b4) _) (fun b e h => hd.k4 (e.trans h.symm)),
              _, (hL0.keep (But.set (b := b7) _) (fun b e h => hd.l7 (e.trans h.symm))).keep (But.set (b := b4) _) (fun b e h => hd.l4 (e.trans h.symm)),
              fun b e => ⟨hd.tk b e, fun h => hd.lt b h e⟩, fun b e h => hd.lk b h e, (hss.put hb7σ _).put hb4 _⟩
          | cells bL cL rest _ h1 h2 h3 h5 h6 =>
            simp (maxSteps := 2000000) +contextual [e0, e22, e23, e24, e4, e5, e7, h4, hb4s, hb7s, n47, n74, -decide_eq_true_eq, -decide_eq_false_iff_not]
            exact ⟨_, SLe.refl _, dT, dK, _, ⟨rfl, rfl, rfl⟩, oT, (hT.keep (But.set (b := b7) _) (fun b e h => hd.t7 (e.trans h.symm))).keep (But.set (b := b4) _) (fun b e h => hd.t4 (e.trans h.symm)),
              oK, (hK.keep (But.set (b := b7) _) (fun b e h => hd.k7 (e.trans h.symm))).keep (But.set (b := b4) _) (fun b e h => hd.k4 (e.trans h.symm)),
              _, (hL0.keep (But.set (b := b7) _) (fun b e h => hd.l7 (e.trans h.symm))).keep (But.set (b := b4) _) (fun b e h => hd.l4 (e.trans h.symm)),
              fun b e => ⟨hd.tk b e, fun h => hd.lt b h e⟩, fun b e h => hd.lk b h e, (hss.put hb7σ _).put hb4 _⟩
def mofD (os : List Old) (ws : List Want) : D := .agg [.list ((mof os ws).take.map intD) .ro, .list ((mof os ws).kept.map natD) .ro, .list ((mof os ws).left.map natD) .ro]
theorem Wk.agg3 {a b c a' b' c' : D} (h1 : Wk a a') (h2 : Wk b b') (h3 : Wk c c') : Wk (.agg [a, b, c]) (.agg [a', b', c']) := by
  refine .agg _ _ rfl fun i d d' hd hd' => ?_
  match i with
  | 0 => simp at hd hd'; subst hd hd'; exact h1
  | 1 => simp at hd hd'; subst hd hd'; exact h2
  | 2 => simp at hd hd'; subst hd hd'; exact h3
  | n + 3 => simp at hd
theorem c_mof (os : List Old) (ws : List Want) (t0 t1 : Tok) (hos : os.length ≤ 1048576) (hws : ws.length ≤ 1048576) :
    Ret Try.prog 67 [.list (os.map oldD) t0, .list (ws.map wantD) t1] (mofD os ws) := by
  refine Ret.of fun σ => HCalls.weakS (HCalls.freezeA (HCalls.freezeA (HCalls.freezeA ((c_mof0 os ws t0 t1 σ hos hws).mono ?_))))
  rintro d s ⟨dT, dK, dL, oT, oK, oL, rfl, hT, hK, hL, h1, h2, hs⟩
  obtain ⟨s1, k1, a1, a2, a3, a4, -⟩ := hT.frz intD_length hs
  refine ⟨_, 0, dT, _, s1, rfl, rfl, a1, a4, ?_⟩
  have hK1 := hK.keep a3 fun b e h => (h1 b h).1 e
  have hL1 := hL.keep a3 fun b e h => (h1 b h).2 e
  obtain ⟨s2, k2, b1, b2, b3, b4, -⟩ := hK1.frz natD_length a2
  refine ⟨_, 1, dK, _, s2, rfl, rfl, b1, b4, ?_⟩
  have hL2 := hL1.keep b3 fun b e h => h2 b h e
  obtain ⟨s3, k3, c1, c2, c3, c4, -⟩ := hL2.frz natD_length b2
  refine ⟨_, 2, dL, _, s3, rfl, rfl, c1, c4, ?_⟩
  exact ⟨_, σ, Wk.agg3 (.list _ _) (.list _ _) (.list _ _), c2.swk, rfl, rfl⟩
end Go.HL
/- Which of the old nodes becomes which: the document's answer. -/
set_option linter.unusedVariables false
set_option linter.unusedSimpArgs false
set_option maxRecDepth 100000
set_option maxHeartbeats 8000000
namespace Go.HL
open Go.RowKit Go.Proofs

/-- Flags, place by place. -/
def fl (n : Nat) (p : Nat → Bool) : List D := (List.range n).map fun k => D.bool (p k)
@[simp] theorem fl_len (n : Nat) (p : Nat → Bool) : (fl n p).length = n := by simp [fl]
theorem fl_get {n : Nat} (p : Nat → Bool) {k : Nat} (h : k < n) : (fl n p)[k]? = some (.bool (p k)) := by simp [fl, h]
theorem fl_at {n : Nat} (p : Nat → Bool) {k : Nat} (h : k < n) : List.take 1 (List.drop k (fl n p)) = [.bool (p k)] := by
  have hk : k < (fl n p).length := by simpa using h
  have := fl_get p h
  rw [List.getElem?_eq_getElem hk] at this
  injection this with this
  rw [List.drop_eq_getElem_cons hk, this]; rfl
theorem fl_congr {n : Nat} {p q : Nat → Bool} (h : ∀ k, k < n → p k = q k) : fl n p = fl n q := by
  unfold fl
  refine List.map_congr_left fun k hk => ?_
  rw [h k (by simpa using hk)]
theorem spl_one (ds : List D) (o : Nat) (c : D) (h : o < ds.length) : spl ds o [c] = ds.set o c := by
  unfold spl
  rw [List.set_eq_take_append_cons_drop, if_pos h]
  simp
theorem fl_set {n : Nat} (p : Nat → Bool) {k : Nat} (h : k < n) (b : Bool) : spl (fl n p) k [.bool b] = fl n fun x => if x = k then b else p x := by
  rw [spl_one _ _ _ (by simpa using h)]
  apply List.ext_getElem?
  intro i
  by_cases hi : i < n
  · by_cases hik : k = i
    · subst hik; rw [List.getElem?_set_self (by simpa using h), fl_get _ h]; simp
    · rw [List.getElem?_set_ne hik, fl_get _ hi, fl_get _ hi, if_neg (Ne.symm hik)]
  · rw [List.getElem?_eq_none (by simp; omega), List.getElem?_eq_none (by simp; omega)]
theorem fl_zero (n : Nat) : zrep n [D.lit (Value.bool false)] = fl n fun _ => false := by
  induction n with
  | zero => rfl
  | succ n ih =>
    apply List.ext_getElem?
    intro i
    by_cases hi : i < n + 1
    · rw [fl_get _ hi, zrep_get _ _ _ (by simpa using hi)]; simp [Nat.mod_one]
    · rw [List.getElem?_eq_none (by simp [zrep_len]; omega), List.getElem?_eq_none (by simp; omega)]
/-- Is it among these? -/
def inL (l : List Nat) (k : Nat) : Bool := decide (k ∈ l)
theorem inL_range {n k : Nat} (h : k < n) : inL (List.range n) k = true := by simp [inL, h]
/-- The walk from a place on. -/
def rFk (os : List Old) (w : Want) (l : List Nat) (k : Nat) (f : Bool) : Int := rF os w l ((List.range os.length).drop k) f
theorem rFk_zero (os : List Old) (w : Want) {l : List Nat} (h : Srt os.length l) : rFk os w l 0 true = gAt os w l := by unfold rFk; rw [List.drop_zero, rF_srt os w h]
theorem rFk_end (os : List Old) (w : Want) (l : List Nat) (f : Bool) : rFk os w l os.length f = -1 := by
  unfold rFk; rw [List.drop_eq_nil_of_le (by simp)]; cases f <;> rfl
theorem rFk_step (os : List Old) (w : Want) (l : List Nat) {k : Nat} (h : k < os.length) (f : Bool) : rFk os w l k f = if inL l k then (if takesP w (oAt os k) f then (k : Int) else rFk os w l (k + 1) false) else rFk os w l (k + 1) f := by
  unfold rFk
  rw [List.drop_eq_getElem_cons (by simpa using h)]
  simp only [List.getElem_range, rF, inL, decide_eq_true_eq]
@[simp] theorem oldD_take (o : Old) : List.take 2 (oldD o) = oldD o := rfl
def refD (os : List Old) (ws : List Want) : D := .tup [.list ((mof os ws).take.map intD) .ro, .list ((mof os ws).kept.map natD) .ro, .list ((mof os ws).left.map natD) .ro]
theorem Wk.tup3 {a b c a' b' c' : D} (h1 : Wk a a') (h2 : Wk b b') (h3 : Wk c c') : Wk (.tup [a, b, c]) (.tup [a', b', c']) := by
  refine .tup _ _ rfl fun i d d' hd hd' => ?_
  match i with
  | 0 => simp at hd hd'; subst hd hd'; exact h1
  | 1 => simp at hd hd'; subst hd hd'; exact h2
  | 2 => simp at hd hd'; subst hd hd'; exact h3
  | n + 3 => simp at hd
theorem c_rof16 (os : List Old) (ws : List Want) (t0 t1 : Tok) (hos : os.length ≤ 1048576) (hws : ws.length ≤ 1048576) : Ret Try.prog 70 [.list (os.map oldD) t0, .list (ws.map wantD) t1] (refD os ws) := by
  refine Ret.weak fun σ => ?_
  refine HCalls.start mixed false _ _ (fn := Try.f70) (by kernel_rfl) rfl (by kernel_rfl) rfl (by kernel_rfl) (by kernel_rfl) ?_
  simp (maxSteps := 2000000) +contextual [-decide_eq_true_eq, -decide_eq_false_iff_not]
  refine ⟨by omega, fun b7 hb7 => ?_⟩
  obtain ⟨N, hN⟩ : ∃ N, N = os.length := ⟨_, rfl⟩
  rw [fl_zero]
  refine hloop_intro (fun n e s => ∃ i : Nat, i + n = os.length ∧ e 0 = .list (os.map oldD) t0 ∧ e 1 = .list (ws.map wantD) t1 ∧ e 7 = .lit (.slice (some ⟨b7, 0, none⟩) os.length os.length) ∧ e 8 = .int .i64 i ∧ s = σ.set b7 (.cells (fl os.length fun k => decide (k < i)))) os.length ?_ ?_
  · refine ⟨0, by simp, ?_⟩
    simp (maxSteps := 2000000) +contextual [-decide_eq_true_eq, -decide_eq_false_iff_not]
  · rintro n e s ⟨i, hi, e0, e1, e7, e8, rfl⟩
    by_cases h4 : i < os.length
    · simp (maxSteps := 2000000) +contextual [e0, e1, e7, e8, h4, -decide_eq_true_eq, -decide_eq_false_iff_not]
      refine ⟨by omega, n - 1, by omega, _, SLe.refl _, i + 1, by omega, by rw [wrap_i64] <;> omega, ?_⟩
      rw [fl_set _ h4]
      congr 2
      refine fl_congr fun k hk => ?_
      by_cases hki : k = i <;> simp [hki]; omega
    · have hi2 : i = os.length := by omega
      subst hi2
      simp (maxSteps := 2000000) +contextual [e0, e1, e7, e8, h4, -decide_eq_true_eq, -decide_eq_false_iff_not]
      have hfl : (fl os.length fun k => decide (k < os.length)) = fl os.length (inL (List.range os.length)) := fl_congr fun k hk => by simp [inL]
      rw [hfl]
      have hS0 : SLe σ (σ.set b7 (.cells (fl os.length (inL (List.range os.length))))) := (SLe.refl σ).set hb7 _
      refine hloop_intro (fun n e s => ∃ (i : Nat) (m : MSt) (tT tK : Tok), i + n = ws.length ∧ e 0 = .list (os.map oldD) t0 ∧ e 1 = .list (ws.map wantD) t1 ∧ e 7 = .lit (.slice (some ⟨b7, 0, none⟩) os.length os.length) ∧ e 9 = .list (m.take.map intD) tT ∧ e 10 = .list (m.kept.map natD) tK ∧ e 11 = .int .i64 i ∧
        s b7 = some (.cells (fl os.length (inL m.left))) ∧ GrV 1 σ (m.take.map intD) tT s ∧ GrV 1 σ (m.kept.map natD) tK s ∧ tT.blk ≠ some b7 ∧ tK.blk ≠ some b7 ∧ (∀ b, tT.blk = some b → tK.blk ≠ some b) ∧ SLe σ s ∧
        Srt os.length m.left ∧ Sm (mof os ws) ((ws.drop i).foldl (mstep os) m) ∧ m.take.length = i ∧ m.left.length + m.kept.length ≤ os.length) ws.length ?_ ?_
      · refine ⟨0, ⟨List.range os.length, [], []⟩, .nil, .nil, by simp, ?_⟩
        simp (maxSteps := 2000000) +contextual [e0, e1, e7, -decide_eq_true_eq, -decide_eq_false_iff_not]
        exact ⟨.nil _, (SLe.refl σ).set hb7 _, Srt.all _, rfl⟩
      · rintro n e s ⟨i, m, tT, tK, hi, e0, e1, e7, e9, e10, e11, h7, gT, gK, nT, nK, nTK, hss, hsrt, hsm, htl, hlk⟩
        by_cases h4 : i < ws.length
        · obtain ⟨w, hw, hw2⟩ : ∃ w, ws[i]? = some w ∧ ws[i] = w := ⟨_, List.getElem?_eq_getElem h4, rfl⟩
          have hdrop : ws.drop i = w :: ws.drop (i + 1) := by rw [List.drop_eq_getElem_cons h4, hw2]
          rw [hdrop] at hsm
          have hsm : mof os ws = (ws.drop (i + 1)).foldl (mstep os) (mstep os m w) := hsm
          simp (maxSteps := 2000000) +contextual [e0, e1, e7, e9, e10, e11, h4, -decide_eq_true_eq, -decide_eq_false_iff_not]
          obtain ⟨g, hg⟩ : ∃ g, g = gAt os w m.left := ⟨_, rfl⟩
          refine hloop_cut 4 (fun e s' => s' = s ∧ e 0 = .list (os.map oldD) t0 ∧ e 1 = .list (ws.map wantD) t1 ∧ e 7 = .lit (.slice (some ⟨b7, 0, none⟩) os.length os.length) ∧ e 9 = .list (m.take.map intD) tT ∧ e 10 = .list (m.kept.map natD) tK ∧ e 11 = .int .i64 i ∧ e 12 = .int .i64 g) ?_ ?_
          · refine hloop_fix (fun n e => ∃ (k : Nat) (f : Bool) (r : Int), k + n = os.length ∧ e 0 = .list (os.map oldD) t0 ∧ e 1 = .list (ws.map wantD) t1 ∧ e 7 = .lit (.slice (some ⟨b7, 0, none⟩) os.length os.length) ∧ e 9 = .list (m.take.map intD) tT ∧ e 10 = .list (m.kept.map natD) tK ∧ e 11 = .int .i64 i ∧
              e 12 = .int .i64 r ∧ e 13 = .bool f ∧ e 14 = .int .i64 k ∧ ((r = -1 ∧ g = rFk os w m.left k f) ∨ (0 ≤ r ∧ r = g))) os.length ?_ ?_
            · refine ⟨0, true, -1, by simp, ?_⟩
              simp (maxSteps := 2000000) +contextual [e0, e1, e7, e9, e10, e11, -decide_eq_true_eq, -decide_eq_false_iff_not]
              rw [rFk_zero os w hsrt]; exact hg
            · rintro n1 e ⟨k, f, r, hk, e0, e1, e7, e9, e10, e11, e12, e13, e14, hr⟩
              by_cases hk4 : k < os.length
              · by_cases hr0 : r < 0
                · have hr : r = -1 ∧ g = rFk os w m.left k f := by rcases hr with h | h; exact h; omega
                  rw [rFk_step os w m.left hk4] at hr
                  simp (maxSteps := 2000000) +contextual [e0, e1, e7, e9, e10, e11, e12, e13, e14, hk4, decide_eq_true hr0, h7, fl_at _ hk4, -decide_eq_true_eq, -decide_eq_false_iff_not]
                  refine ⟨by omega, fun hin => ?_, fun hin => ?_⟩
                  · rw [hin] at hr
                    exact ⟨n1 - 1, by omega, k + 1, by omega, by rw [wrap_i64] <;> omega, .inl (by simpa using hr)⟩
                  · rw [hin] at hr
                    refine hdraw_intro (by kernel_rfl) ?_
                    have ho : os[k] = oAt os k := by rw [← oAt_def, List.getD_eq_getElem?_getD, List.getElem?_eq_getElem hk4]; rfl
                    simp (maxSteps := 2000000) +contextual [e0, e1, e7, e9, e10, e11, e12, e13, e14, hk4, h4, wantD_length, oldD_length, hw2, ho, -decide_eq_true_eq, -decide_eq_false_iff_not]
                    refine c_takes16 w _ f _ _ ?_
                    cases ht : takesP w (oAt os k) f with
                    | true =>
                      rw [ht] at hr
                      simp (maxSteps := 2000000) +contextual [e0, e1, e7, e9, e10, e11, e12, e13, e14, -decide_eq_true_eq, -decide_eq_false_iff_not]
                      exact ⟨n1 - 1, by omega, k + 1, by omega, by rw [wrap_i64] <;> omega, by simpa using hr.2.symm⟩
                    | false =>
                      rw [ht] at hr
                      simp (maxSteps := 2000000) +contextual [e0, e1, e7, e9, e10, e11, e12, e13, e14, -decide_eq_true_eq, -decide_eq_false_iff_not]
                      exact ⟨n1 - 1, by omega, k + 1, by omega, by rw [wrap_i64] <;> omega, .inl (by simpa using hr)⟩
                · simp (maxSteps := 2000000) +contextual [e0, e1, e7, e9, e10, e11, e12, e13, e14, hk4, decide_eq_false hr0, -decide_eq_true_eq, -decide_eq_false_iff_not]
                  rcases hr with h | h
                  · omega
                  · exact h.2
              · have hkn : k = os.length := by omega
                subst hkn
                rw [rFk_end] at hr
                simp (maxSteps := 2000000) +contextual [e0, e1, e7, e9, e10, e11, e12, e13, e14, hk4, -decide_eq_true_eq, -decide_eq_false_iff_not]
                rcases hr with h | h
                · rw [h.1, h.2]
                · exact h.2
          · rintro e s' ⟨rfl, e0, e1, e7, e9, e10, e11, e12⟩
            have hgm : (g = -1 ∧ mstep os m w = if w.kind = 4 then ⟨[], m.take ++ [g], m.kept ++ m.left⟩ else ⟨m.left, m.take ++ [g], m.kept⟩) ∨
                ∃ j : Nat, j ∈ m.left ∧ g = j ∧ mstep os m w = if w.kind = 4 then ⟨[], m.take ++ [g], m.kept ++ m.left.erase j⟩ else ⟨m.left.erase j, m.take ++ [g], m.kept⟩ := by
              have := mstep_g os m w hsrt
              simp only at this
              rw [← hg] at this
              rcases gAt_mem os w m.left with h | ⟨j, hj, h⟩
              · rw [← hg] at h; refine .inl ⟨h, ?_⟩; rw [this, h]; simp
              · rw [← hg] at h; refine .inr ⟨j, hj, h, ?_⟩; rw [this, h]; simp
            simp (maxSteps := 2000000) +contextual [e0, e1, e7, e9, e10, e11, e12, intD_length, -hcond_bool, -decide_eq_true_eq, -decide_eq_false_iff_not]
            refine hcond_cut (fun e s2 => ∃ L, Srt os.length L ∧ mstep os m w = (if w.kind = 4 then ⟨[], m.take ++ [g], m.kept ++ L⟩ else ⟨L, m.take ++ [g], m.kept⟩) ∧ L.length ≤ m.left.length ∧
              s2 b7 = some (.cells (fl os.length (inL L))) ∧ But (some b7) s' s2 ∧ e 0 = .list (os.map oldD) t0 ∧ e 1 = .list (ws.map wantD) t1 ∧ e 7 = .lit (.slice (some ⟨b7, 0, none⟩) os.length os.length) ∧ e 9 = .list (m.take.map intD) tT ∧ e 10 = .list (m.kept.map natD) tK ∧ e 11 = .int .i64 i ∧ e 12 = .int .i64 g) ?_ ?_
            · rcases hgm with ⟨h, hst⟩ | ⟨j, hj, h, hst⟩
              · simp (maxSteps := 2000000) +contextual [decide_eq_false (show ¬ 0 ≤ g by omega), e0, e1, e7, e9, e10, e11, e12, -decide_eq_true_eq, -decide_eq_false_iff_not]
                exact ⟨m.left, hsrt, hst, Nat.le_refl _, h7, But.refl _ _⟩
              · have hjl : j < os.length := hsrt.lt j hj
                simp (maxSteps := 2000000) +contextual [h, e0, e1, e7, e9, e10, e11, e12, h7, -decide_eq_true_eq, -decide_eq_false_iff_not]
                refine ⟨by omega, by omega, m.left.erase j, hsrt.erase j, by rw [← h]; exact hst, List.length_erase_le, ?_, But.set _⟩
                rw [fl_set _ hjl]
                refine fl_congr fun k hk => ?_
                by_cases hkj : k = j
                · subst hkj; simp [inL, hsrt.nodup.mem_erase_iff]
                · simp [inL, hkj, hsrt.nodup.mem_erase_iff]
            · rintro e s2 ⟨L, hsL, hst, hLl, q7, hB, e0, e1, e7, e9, e10, e11, e12⟩
              simp (maxSteps := 2000000) +contextual [e0, e1, e7, e9, e10, e11, e12, intD_length, -decide_eq_true_eq, -decide_eq_false_iff_not]
              refine (gT.keep hB fun b h h' => nT (h.trans h'.symm)).appendT (hB.low hss hb7) [g] rfl rfl (by simp; omega) (by simp; omega) ?_
              intro out tT' s3 hout q1 q2 q3 q4
              simp (maxSteps := 2000000) +contextual [e0, e1, e7, e9, e10, e11, e12, -decide_eq_true_eq, -decide_eq_false_iff_not]
              have p7 : s3 b7 = some (.cells (fl os.length (inL L))) := q2 _ _ nT q7
              have nT' : tT'.blk ≠ some b7 := fun h => (q3 b7 h).elim nT fun h => by rw [q7] at h; cases h
              have gK2 : GrV 1 σ (m.kept.map natD) tK s3 := (gK.keep hB fun b h h' => nK (h.trans h'.symm)).keep q2 fun b h h' => nTK b h' h
              have hKne : ∀ b, tK.blk = some b → s2 b ≠ none := fun b h h2 => by
                obtain ⟨-, c, hc⟩ := (gK.keep hB fun b h h' => nK (h.trans h'.symm)).blk h
                rw [hc] at h2; cases h2
              have nTK' : ∀ b, tT'.blk = some b → tK.blk ≠ some b := fun b h h' => (q3 b h).elim (fun h => nTK b h h') (hKne b h')
              refine hloop_intro (fun n2 e s => ∃ (k : Nat) (K : List Nat) (tK' : Tok), k + n2 = os.length ∧ e 0 = .list (os.map oldD) t0 ∧ e 1 = .list (ws.map wantD) t1 ∧ e 7 = .lit (.slice (some ⟨b7, 0, none⟩) os.length os.length) ∧ e 9 = .list (out.map intD) tT' ∧
                e 10 = .list (K.map natD) tK' ∧ e 11 = .int .i64 i ∧ e 15 = .int .i64 k ∧ (w.kind = 4 ∨ k = 0) ∧ s b7 = some (.cells (fl os.length fun x => decide (k ≤ x) && inL L x)) ∧
                GrV 1 σ (out.map intD) tT' s ∧ GrV 1 σ (K.map natD) tK' s ∧ tK'.blk ≠ some b7 ∧ (∀ b, tT'.blk = some b → tK'.blk ≠ some b) ∧ SLe σ s ∧ Sm K (m.kept ++ (List.range k).filter (inL L))) os.length ?_ ?_
              · refine ⟨0, m.kept, tK, by simp, ?_⟩
                simp (maxSteps := 2000000) +contextual [e0, e1, e7, e9, e10, e11, e12, -decide_eq_true_eq, -decide_eq_false_iff_not]
                exact ⟨p7, q4, gK2, nK, nTK', q1, rfl⟩
              · rintro n2 e s ⟨k, K, tK', hk, e0, e1, e7, e9, e10, e11, e15, hk4, p7, gT', gK', nK', nTK', hss, hK⟩
                have hK : K = _ := hK
                have hsum : ∀ k, (m.kept ++ (List.range k).filter (inL L)).length ≤ m.kept.length + k := fun k => by
                  rw [List.length_append]
                  have := List.length_filter_le (inL L) (List.range k)
                  simp at this; omega
                have fin : ∀ (M2 : MSt) (K2 : List Nat), M2 = mstep os m w → K = M2.kept → out = M2.take → s b7 = some (.cells (fl os.length (inL M2.left))) → Srt os.length M2.left → M2.left.length + M2.kept.length ≤ os.length →
                    ∃ m_1, m_1 < n ∧ ∃ x, SLe x s ∧ ∃ i_1 : Nat, i_1 + m_1 = ws.length ∧ ∃ (x_1 : MSt) (x_2 : Tok), (List.map intD out = List.map intD x_1.take ∧ tT' = x_2) ∧ ∃ (x_3 : Tok), (List.map natD K = List.map natD x_1.kept ∧ tK' = x_3) ∧ IntKind.i64.wrap (↑i + 1) = ↑i_1 ∧
                      x b7 = some (HObj.cells (fl os.length (inL x_1.left))) ∧ GrV 1 σ (List.map intD x_1.take) x_2 x ∧ GrV 1 σ (List.map natD x_1.kept) x_3 x ∧ ¬x_2.blk = some b7 ∧ ¬x_3.blk = some b7 ∧ (∀ (b : Nat), x_2.blk = some b → ¬x_3.blk = some b) ∧ SLe σ x ∧ Srt os.length x_1.left ∧
                        Sm (mof os ws) (List.foldl (mstep os) x_1 (List.drop i_1 ws)) ∧ x_1.take.length = i_1 ∧ x_1.left.length + x_1.kept.length ≤ os.length := by
                  intro M2 K2 f1 f2 f3 f4 f5 f6
                  refine ⟨n - 1, by omega, s, SLe.refl _, i + 1, by omega, M2, tT', ⟨by rw [f3], rfl⟩, tK', ⟨by rw [f2], rfl⟩, by rw [wrap_i64] <;> omega, f4, by rw [← f3]; exact gT', by rw [← f2]; exact gK', nT', nK', nTK', hss, f5, ?_, ?_, f6⟩
                  · show mof os ws = _; rw [hsm, f1]
                  · rw [← f3, hout]; simp [htl]
                have hLk : ∀ k, os.length ≤ k → (List.range os.length).filter (inL L) = L := fun _ _ => hsL.symm
                by_cases hkn : k < os.length
                · by_cases h44 : w.kind = 4
                  · have hL : (List.range (k + 1)).filter (inL L) = (List.range k).filter (inL L) ++ if inL L k then [k] else [] := by
                      rw [List.range_succ, List.filter_append]; cases h : inL L k <;> simp [h]
                    have hsum1 := hsum k
                    rw [← hK] at hsum1
                    simp (maxSteps := 2000000) +contextual [e0, e1, e7, e9, e10, e11, e15, hkn, p7, fl_at _ hkn, hw2, h4, wantD_length, h44, wantD_eq w, natD_length, -decide_eq_true_eq, -decide_eq_false_iff_not]
                    refine ⟨by omega, fun hin => ?_, fun hin => ?_⟩
                    · refine gK'.appendT hss [k] rfl rfl (by simp; omega) (by simp only [List.length_singleton]; omega) ?_
                      intro K2 tK2 s4 hK2 r1 r2 r3 r4
                      have p74 := r2 _ _ nK' p7
                      have nK2 : tK2.blk ≠ some b7 := fun h => (r3 b7 h).elim nK' fun h => by rw [p7] at h; cases h
                      have gT2 := gT'.keep r2 fun b h h' => nTK' b h h'
                      have nTK2 : ∀ b, tT'.blk = some b → tK2.blk ≠ some b := fun b h h' => (r3 b h').elim (nTK' b h) fun h2 => by
                        obtain ⟨-, c, hc⟩ := gT'.blk h
                        rw [hc] at h2; cases h2
                      simp (maxSteps := 2000000) +contextual [e0, e1, e7, e9, e10, e11, e15, hkn, p74, -decide_eq_true_eq, -decide_eq_false_iff_not]
                      refine ⟨by omega, n2 - 1, by omega, _, SLe.refl _, k + 1, by omega, K2, tK2, ⟨rfl, rfl⟩, by rw [wrap_i64] <;> omega, .inl h44, ?_, gT2.keep (But.set _) fun b h h' => nT' (h.trans h'.symm), r4.keep (But.set _) fun b h h' => nK2 (h.trans h'.symm), nK2, nTK2, r1.put hb7 _, ?_⟩
                      · rw [Store.set_same, fl_set _ hkn]
                        refine congrArg some (congrArg HObj.cells (fl_congr fun x hx => ?_))
                        by_cases hxk : x = k
                        · subst hxk
                          have : ¬ (x + 1 ≤ x) := by omega
                          simp [this]
                        · have : (k ≤ x) ↔ (k + 1 ≤ x) := by omega
                          simp [hxk, this]
                      · show K2 = _
                        rw [hK2, hK, hL, hin]; simp
                    · refine ⟨n2 - 1, by omega, s, SLe.refl _, k + 1, by omega, K, tK', ⟨rfl, rfl⟩, by rw [wrap_i64] <;> omega, ?_, gT', gK', nK', nTK', hss, ?_⟩
                      · rw [p7]
                        refine congrArg some (congrArg HObj.cells (fl_congr fun x hx => ?_))
                        by_cases hxk : x = k
                        · subst hxk; simp [hin]
                        · have : (k ≤ x) ↔ (k + 1 ≤ x) := by omega
                          simp [this]
                      · show K = _
                        rw [hK, hL, hin]; simp
                  · have hk0 : k = 0 := by rcases hk4 with h | h; exact absurd h h44; exact h
                    subst hk0
                    rw [if_neg h44] at hst
                    simp (maxSteps := 2000000) +contextual [e0, e1, e7, e9, e10, e11, e15, hkn, p7, fl_at _ hkn, hw2, h4, wantD_length, decide_eq_false h44, wantD_eq w, -decide_eq_true_eq, -decide_eq_false_iff_not]
                    exact fin ⟨L, m.take ++ [g], m.kept⟩ [] hst.symm (by rw [hK]; simp) hout (by rw [p7]; simp) hsL (by simp; omega)
                · have hkk : k = os.length := by omega
                  subst hkk
                  simp (maxSteps := 2000000) +contextual [e0, e1, e7, e9, e10, e11, e15, hkn, -decide_eq_true_eq, -decide_eq_false_iff_not]
                  have hLL : (List.range os.length).filter (inL L) = L := hsL.symm
                  rw [hLL] at hK
                  by_cases h44 : w.kind = 4
                  · rw [if_pos h44] at hst
                    have := hsL.len
                    exact fin ⟨[], m.take ++ [g], m.kept ++ L⟩ [] hst.symm hK hout (by
                      rw [p7]
                      refine congrArg some (congrArg HObj.cells (fl_congr fun x hx => ?_))
                      have : ¬ os.length ≤ x := by omega
                      simp [inL, this]) (Srt.nil _) (by simp; omega)
                  · have hk0 : os.length = 0 := by rcases hk4 with h | h; exact absurd h h44; exact h
                    rw [if_neg h44] at hst
                    have hL0 : L = [] := by rw [← hLL, hk0]; rfl
                    subst hL0
                    exact fin ⟨[], m.take ++ [g], m.kept⟩ [] hst.symm (by rw [hK]; simp) hout (by
                      rw [p7]
                      exact congrArg some (congrArg HObj.cells (fl_congr fun x hx => by omega))) hsL (by simp; omega)
        · have hi2 : ws.drop i = [] := List.drop_eq_nil_of_le (by omega)
          rw [hi2] at hsm
          have hsm : mof os ws = m := hsm
          simp (maxSteps := 2000000) +contextual [e0, e1, e7, e9, e10, e11, h4, -decide_eq_true_eq, -decide_eq_false_iff_not]
          refine hloop_intro (fun n2 e s => ∃ (k : Nat) (G : List Nat) (tG : Tok), k + n2 = os.length ∧ e 0 = .list (os.map oldD) t0 ∧ e 7 = .lit (.slice (some ⟨b7, 0, none⟩) os.length os.length) ∧ e 9 = .list (m.take.map intD) tT ∧
            e 10 = .list (m.kept.map natD) tK ∧ e 16 = .list (G.map natD) tG ∧ e 17 = .int .i64 k ∧ s b7 = some (.cells (fl os.length (inL m.left))) ∧
            GrV 1 σ (G.map natD) tG s ∧ tG.blk ≠ some b7 ∧ SLe σ s ∧ Sm G ((List.range k).filter (inL m.left))) os.length ?_ ?_
          · refine ⟨0, [], .nil, by simp, ?_⟩
            simp (maxSteps := 2000000) +contextual [e0, e1, e7, e9, e10, e11, -decide_eq_true_eq, -decide_eq_false_iff_not]
            exact ⟨h7, .nil _, hss, rfl⟩
          · rintro n2 e s ⟨k, G, tG, hk, e0, e7, e9, e10, e16, e17, p7, gG, nG, hss, hG⟩
            have hG : G = _ := hG
            by_cases hkn : k < os.length
            · have hL : (List.range (k + 1)).filter (inL m.left) = (List.range k).filter (inL m.left) ++ if inL m.left k then [k] else [] := by
                rw [List.range_succ, List.filter_append]; cases h : inL m.left k <;> simp [h]
              have hGl : G.length ≤ k := by rw [hG]; exact Nat.le_trans (List.length_filter_le _ _) (by simp)
              simp (maxSteps := 2000000) +contextual [e0, e7, e9, e10, e16, e17, hkn, p7, fl_at _ hkn, natD_length, -decide_eq_true_eq, -decide_eq_false_iff_not]
              refine ⟨by omega, fun hin => ?_, fun hin => ?_⟩
              · refine gG.appendT hss [k] rfl rfl (by simp; omega) (by simp only [List.length_singleton]; omega) ?_
                intro G2 tG2 s4 hG2 r1 r2 r3 r4
                have p74 := r2 _ _ nG p7
                have nG2 : tG2.blk ≠ some b7 := fun h => (r3 b7 h).elim nG fun h => by rw [p7] at h; cases h
                simp (maxSteps := 2000000) +contextual [e0, e7, e9, e10, e16, e17, hkn, p74, -decide_eq_true_eq, -decide_eq_false_iff_not]
                refine ⟨n2 - 1, by omega, s4, SLe.refl _, k + 1, by omega, G2, tG2, ⟨rfl, rfl⟩, by rw [wrap_i64] <;> omega, p74, r4, nG2, r1, ?_⟩
                show G2 = _
                rw [hG2, hL, hin, hG]; simp
              · refine ⟨n2 - 1, by omega, s, SLe.refl _, k + 1, by omega, G, tG, ⟨rfl, rfl⟩, by rw [wrap_i64] <;> omega, p7, gG, nG, hss, ?_⟩
                show G = _
                rw [hL, hin, hG]; simp
            · have hkk : k = os.length := by omega
              subst hkk
              have hLL : (List.range os.length).filter (inL m.left) = m.left := hsrt.symm
              rw [hLL] at hG
              subst hG
              simp (maxSteps := 2000000) +contextual [e0, e7, e9, e10, e16, e17, hkn, -decide_eq_true_eq, -decide_eq_false_iff_not]
              unfold refD
              rw [hsm]
              exact ⟨hss, Wk.tup3 (.list _ _) (.list _ _) (.list _ _)⟩
end Go.HL
