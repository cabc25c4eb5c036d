/- Programs that may be: the reference's answer. -/
import Derived.Test.YtdbbbhjajkobaaaGvalid
set_option linter.unusedVariables false
set_option linter.unusedSimpArgs false
set_option maxRecDepth 100000
set_option maxHeartbeats 1000000
namespace Go.HL
open Go.RowKit Go.Proofs

def natD (n : Nat) : List D := [.int .i64 (n : Int)]
theorem natD_length (n : Nat) : (natD n).length = 1 := rfl
@[simp high] theorem flatN_length (l : List Nat) (rest : List D) : ((l.map natD).flatten ++ rest).length = l.length * 1 + rest.length := by
  rw [List.length_append, flat_length natD 1 natD_length]
def stepS (st : List Nat) (i : Nat) (x : Ins) : List Nat := if x.op = 1 then st ++ [i + 1] else if x.op = 2 then st.dropLast else st
def stkF : List Ins → Nat → List Nat → List Nat
  | [], _, st => st
  | x :: r, i, st => stkF r (i + 1) (stepS st i x)
def stk (l : List Ins) (a : Nat) : List Nat := stkF (l.take a) 0 []
theorem stkF_append (l m : List Ins) (i : Nat) (st : List Nat) : stkF (l ++ m) i st = stkF m (i + l.length) (stkF l i st) := by
  induction l generalizing i st with
  | nil => rfl
  | cons x l ih => simp only [List.cons_append, stkF, ih, List.length_cons]; congr 1; omega
theorem stk_next {l : List Ins} {i : Nat} {x : Ins} (hx : l[i]? = some x) : stk l (i + 1) = stepS (stk l i) i x := by
  have hi : i < l.length := (List.getElem?_eq_some_iff.1 hx).1
  unfold stk
  rw [take_next hx, stkF_append]
  have : (l.take i).length = i := by simp; omega
  rw [this, Nat.zero_add]; rfl
theorem stk_le (l : List Ins) (i : Nat) (hi : i ≤ l.length) : (stk l i).length ≤ i ∧ ∀ n ∈ stk l i, n ≤ i := by
  induction i with
  | zero => simp [stk, stkF]
  | succ i ih =>
    have hx := List.getElem?_eq_getElem (show i < l.length by omega)
    rw [stk_next hx]
    obtain ⟨h1, h2⟩ := ih (by omega)
    unfold stepS
    split
    · refine ⟨by simp; omega, fun n hn => ?_⟩
      rcases List.mem_append.1 hn with hn | hn
      · have := h2 n hn; omega
      · simp at hn; omega
    · split
      · refine ⟨by simp; omega, fun n hn => ?_⟩
        have := h2 n (List.dropLast_subset _ hn); omega
      · exact ⟨by omega, fun n hn => by have := h2 n hn; omega⟩
def beginP (l : List Ins) (a : Nat) : Nat := (stk l a).getLast?.getD 0
theorem c_begin (l : List Ins) (t0 : Tok) (a : Nat) (hl : l.length ≤ 1048576) (ha : a ≤ l.length) : Ret Try.prog 75 [.list (l.map insD) t0, .int .i64 a] (.tup [.int .i64 (beginP l a), .int .i64 (stk l a).length]) := by
  refine Ret.of fun σ => ?_
  refine HCalls.start mixed true _ _ (fn := Try.f75) (by kernel_rfl) rfl (by kernel_rfl) rfl (by kernel_rfl) (by kernel_rfl) ?_
  simp (maxSteps := 2000000) +contextual [-decide_eq_true_eq, -decide_eq_false_iff_not]
  refine hloop_intro (fun n e s => ∃ (i : Nat) (d : D), i + n = a ∧ e 0 = .list (l.map insD) t0 ∧ e 1 = .int .i64 a ∧ e 6 = d ∧ e 7 = .int .i64 i ∧ Own natD 1 σ (stk l i) d s) a ?_ ?_
  · exact ⟨0, .list [] .nil, by simp, by simp; exact .nil rfl⟩
  · rintro n e s ⟨i, d, hi, e0, e1, e6, e7, ho⟩
    have hsl := (stk_le l i (by omega)).1
    by_cases h4 : i < a
    · obtain ⟨x, hx, hx2⟩ : ∃ x, l[i]? = some x ∧ l[i] = x := ⟨_, List.getElem?_eq_getElem (by omega), rfl⟩
      have hn := stk_next hx
      have hlt : i < l.length := by omega
      have fin : ∀ d' s' s3, SLe s3 s' → Own natD 1 σ (stk l (i + 1)) d' s3 → ∃ m, m < n ∧ ∃ s'', SLe s'' s' ∧ ∃ i_1 : Nat, i_1 + m = a ∧ IntKind.i64.wrap (↑i + 1) = ↑i_1 ∧ Own natD 1 σ (stk l i_1) d' s'' := fun d' s' s3 h1 h2 =>
        ⟨n - 1, by omega, s3, h1, i + 1, by omega, by rw [wrap_i64] <;> omega, h2⟩
      by_cases h1 : x.op = 1
      · have hw : IntKind.i64.wrap ((i : Int) + 1) = ((i + 1 : Nat) : Int) := by rw [wrap_i64] <;> omega
        have hst : stk l (i + 1) = stk l i ++ [i + 1] := by rw [hn, stepS, if_pos h1]
        simp (maxSteps := 2000000) +contextual [e0, e1, e6, e7, insD_length, insD_def, h4, hlt, hx, hx2, h1, -decide_eq_true_eq, -decide_eq_false_iff_not]
        intro b hb
        refine ⟨ho.sized, ?_⟩
        rw [hw]
        refine ho.append (z := [D.int .i64 0]) natD_length ((SLe.refl s).set hb _) ?_ ?_ ?_ [i + 1] ?_ ?_ ?_ ?_
        · rfl
        · rfl
        · rfl
        · rfl
        · (try simp); omega
        · (try simp); omega
        intro d' s' s3 hs3 ho'
        simp (maxSteps := 2000000) +contextual [e0, e1, e6, e7, insD_length, insD_def, h4, hlt, hx, hx2, h1, -decide_eq_true_eq, -decide_eq_false_iff_not]
        rw [← hst] at ho'
        exact fin d' s' s3 hs3 ho'
      · by_cases h2 : x.op = 2
        · have hst : stk l (i + 1) = (stk l i).dropLast := by rw [hn, stepS, if_neg h1, if_pos h2]
          by_cases hne : stk l i = []
          · simp (maxSteps := 2000000) +contextual [e0, e1, e6, e7, insD_length, insD_def, h4, hlt, hx, hx2, h2, ho.hlen, hne, -decide_eq_true_eq, -decide_eq_false_iff_not]
            have hst' : stk l (i + 1) = [] := by rw [hst, hne]; rfl
            exact fin d s s (SLe.refl s) (by rw [hst']; rw [hne] at ho; exact ho)
          · obtain ⟨b, c, rest, hd, hb, g1, g2, g3, hs⟩ := ho.some hne
            subst hd
            obtain ⟨qs, t, hq⟩ : ∃ qs t, stk l i = qs ++ [t] := ⟨(stk l i).dropLast, (stk l i).getLast hne, (List.dropLast_concat_getLast hne).symm⟩
            have hql : (stk l i).length = qs.length + 1 := by rw [hq]; simp
            have hpos : 0 < (stk l i).length := by omega
            have hw : IntKind.i64.wrap (((stk l i).length : Int) - 1) = (qs.length : Int) := by rw [wrap_i64] <;> omega
            have hpop := Own.pop (f := natD) natD_length hb (by rw [← hq]; exact g1) g2 (by rw [← hq]; exact g3)
            rw [← hq, ← hs] at hpop
            have hq2 : qs = stk l (i + 1) := by rw [hst, hq]; simp
            simp (maxSteps := 2000000) +contextual [e0, e1, e6, e7, insD_length, insD_def, h4, hlt, hx, hx2, h2, hpos, hw, -decide_eq_true_eq, -decide_eq_false_iff_not]
            refine ⟨by simpa using g1, by omega, ?_⟩
            rw [hq2] at hpop ⊢
            exact fin _ s s (SLe.refl s) hpop
        · have hst : stk l (i + 1) = stk l i := by rw [hn, stepS, if_neg h1, if_neg h2]
          simp (maxSteps := 2000000) +contextual [e0, e1, e6, e7, insD_length, insD_def, h4, hlt, hx, hx2, h1, h2, -decide_eq_true_eq, -decide_eq_false_iff_not]
          rw [← hst] at ho
          exact fin d s s (SLe.refl s) ho
    · have hia : i = a := by omega
      subst hia
      by_cases hne : stk l i = []
      · have hbg : beginP l i = 0 := by simp [beginP, hne]
        simp (maxSteps := 2000000) +contextual [e0, e1, e6, e7, h4, ho.hlen, hne, hbg, -decide_eq_true_eq, -decide_eq_false_iff_not]
        exact ho.le
      · obtain ⟨b, c, rest, hd, hb, g1, g2, g3, hs⟩ := ho.some hne
        subst hd
        obtain ⟨qs, t, hq⟩ : ∃ qs t, stk l i = qs ++ [t] := ⟨(stk l i).dropLast, (stk l i).getLast hne, (List.dropLast_concat_getLast hne).symm⟩
        have hbg : beginP l i = t := by simp [beginP, hq]
        have hql : (stk l i).length = qs.length + 1 := by rw [hq]; simp
        have hz : ¬ ((stk l i).length : Int) = 0 := by omega
        have hw : IntKind.i64.wrap (((stk l i).length : Int) - 1) = (qs.length : Int) := by rw [wrap_i64] <;> omega
        have hsb : s b = some (.cells (((stk l i).map natD).flatten ++ rest)) := by rw [hs]; simp
        have hfl := flat_length natD 1 natD_length qs
        have hdr : List.drop qs.length (((stk l i).map natD).flatten ++ rest) = D.int .i64 (t : Int) :: rest := by
          rw [hq]
          simp only [List.map_append, List.flatten_append, List.append_assoc]
          have : qs.length = (qs.map natD).flatten.length := by rw [hfl]; omega
          rw [this, List.drop_left' rfl]; rfl
        have hll : qs.length + 1 ≤ (((stk l i).map natD).flatten ++ rest).length := by rw [List.length_append, flat_length natD 1 natD_length]; omega
        simp (maxSteps := 2000000) +contextual [e0, e1, e6, e7, h4, hz, hw, hsb, hdr, hbg, hne, -decide_eq_true_eq, -decide_eq_false_iff_not]
        exact ⟨by omega, by omega, ho.le⟩

/-- What stands at the same place, ahead. -/
def scanA : List Ins → Int → List Ins
  | [], _ => []
  | x :: r, d => (if d = 0 ∧ ¬ x.op = 2 then [x] else []) ++ scanA r (if x.op = 1 then d + 1 else if x.op = 2 then d - 1 else d)
def depA : List Ins → Int → Int
  | [], d => d
  | x :: r, d => depA r (if x.op = 1 then d + 1 else if x.op = 2 then d - 1 else d)
theorem scanA_append (l m : List Ins) (d : Int) : scanA (l ++ m) d = scanA l d ++ scanA m (depA l d) := by
  induction l generalizing d with
  | nil => rfl
  | cons x l ih => simp [scanA, depA, ih]
theorem depA_append (l m : List Ins) (d : Int) : depA (l ++ m) d = depA m (depA l d) := by
  induction l generalizing d with
  | nil => rfl
  | cons x l ih => simp [depA, ih]
theorem scanA_le (l : List Ins) (d : Int) : (scanA l d).length ≤ l.length := by
  induction l generalizing d with
  | nil => simp [scanA]
  | cons x l ih =>
    have := ih (if x.op = 1 then d + 1 else if x.op = 2 then d - 1 else d)
    simp only [scanA, List.length_append, List.length_cons]
    split <;> simp <;> omega
theorem depA_le (l : List Ins) (d : Int) : d - l.length ≤ depA l d ∧ depA l d ≤ d + l.length := by
  induction l generalizing d with
  | nil => simp [depA]
  | cons x l ih =>
    have := ih (if x.op = 1 then d + 1 else if x.op = 2 then d - 1 else d)
    simp only [depA, List.length_cons]
    split at this
    · rename_i h; simp only [h, if_true]; omega
    · rename_i h
      simp only [h, if_false]
      split at this
      · rename_i h; simp only [h, if_true]; omega
      · rename_i h; simp only [h, if_false]; omega
/-- From one place to another. -/
def seg (l : List Ins) (i j : Nat) : List Ins := (l.take j).drop i
theorem seg_next {l : List Ins} {i j : Nat} {x : Ins} (hx : l[j]? = some x) (h : i ≤ j) : seg l i (j + 1) = seg l i j ++ [x] := by
  have hj := (List.getElem?_eq_some_iff.1 hx).1
  unfold seg
  rw [take_next hx, List.drop_append_of_le_length (by simp; omega)]
theorem seg_self (l : List Ins) (i : Nat) : seg l i i = [] := by
  unfold seg; rw [List.drop_eq_nil_of_le (by simp; omega)]
theorem beginP_le (l : List Ins) (a : Nat) (ha : a ≤ l.length) : beginP l a ≤ a := by
  unfold beginP
  cases h : (stk l a).getLast? with
  | none => simp
  | some t => exact (stk_le l a ha).2 t (List.mem_of_getLast? h)
def aheadP (l : List Ins) (a : Nat) : List Ins := scanA (seg l (beginP l a) a) 0
theorem c_ahead (l : List Ins) (t0 : Tok) (a : Nat) (hl : l.length ≤ 1048576) (ha : a ≤ l.length) : RetL Try.prog 106 [.list (l.map insD) t0, .int .i64 a] ((aheadP l a).map insD) := by
  refine RetL.of fun σ => ?_
  refine HCalls.start mixed false _ _ (fn := Try.f106) (by kernel_rfl) rfl (by kernel_rfl) rfl (by kernel_rfl) (by kernel_rfl) ?_
  simp (maxSteps := 2000000) +contextual [-decide_eq_true_eq, -decide_eq_false_iff_not]
  refine c_begin l t0 a hl ha _ _ ?_
  have hbl := beginP_le l a ha
  simp (maxSteps := 2000000) +contextual [-decide_eq_true_eq, -decide_eq_false_iff_not]
  refine hloop_intro (fun n e s => ∃ (i : Nat) (tok : Tok) (out : List Ins), i + n = a ∧ beginP l a ≤ i ∧ e 0 = .list (l.map insD) t0 ∧ e 1 = .int .i64 a ∧ e 7 = .list (out.map insD) tok ∧ e 8 = .int .i64 (depA (seg l (beginP l a) i) 0) ∧ e 9 = .int .i64 i ∧ Gr 3 σ (out.map insD) tok s ∧ scanA (seg l (beginP l a) i) 0 = out) (a - beginP l a) ?_ ?_
  · refine ⟨beginP l a, .nil, [], by omega, Nat.le_refl _, ?_⟩
    simp (maxSteps := 2000000) +contextual [seg_self, scanA, depA, -decide_eq_true_eq, -decide_eq_false_iff_not]
    exact .nil
  · rintro n e s ⟨i, tok, out, hi, hbi, e0, e1, e7, e8, e9, hg, ho⟩
    have hsl : (seg l (beginP l a) i).length ≤ i := by unfold seg; simp; omega
    have hol := scanA_le (seg l (beginP l a) i) 0
    rw [ho] at hol
    have hdl := depA_le (seg l (beginP l a) i) 0
    by_cases h4 : i < a
    · obtain ⟨x, hx, hx2⟩ : ∃ x, l[i]? = some x ∧ l[i] = x := ⟨_, List.getElem?_eq_getElem (by omega), rfl⟩
      have hlt : i < l.length := by omega
      have hsn := seg_next hx hbi
      have hdn : depA (seg l (beginP l a) (i + 1)) 0 = if x.op = 1 then depA (seg l (beginP l a) i) 0 + 1 else if x.op = 2 then depA (seg l (beginP l a) i) 0 - 1 else depA (seg l (beginP l a) i) 0 := by rw [hsn, depA_append]; rfl
      have hon : scanA (seg l (beginP l a) (i + 1)) 0 = out ++ if depA (seg l (beginP l a) i) 0 = 0 ∧ ¬ x.op = 2 then [x] else [] := by rw [hsn, scanA_append, ho]; simp [scanA]
      generalize depA (seg l (beginP l a) i) 0 = dd at e8 hdn hon hdl
      have hw1 : IntKind.i64.wrap (dd + 1) = dd + 1 := by rw [wrap_i64] <;> omega
      have hw2 : IntKind.i64.wrap (dd - 1) = dd - 1 := by rw [wrap_i64] <;> omega
      have fin : ∀ out' tok' s' s3, out' = scanA (seg l (beginP l a) (i + 1)) 0 → SLe s3 s' → Gr 3 σ (out'.map insD) tok' s3 → ∀ dd', dd' = depA (seg l (beginP l a) (i + 1)) 0 → ∃ m, m < n ∧ ∃ s'', SLe s'' s' ∧ ∃ (i_1 : Nat), i_1 + m = a ∧ beginP l a ≤ i_1 ∧ ∃ x, ∃ x_1, (List.map insD out' = List.map insD x_1 ∧ tok' = x) ∧ dd' = depA (seg l (beginP l a) i_1) 0 ∧ IntKind.i64.wrap (↑i + 1) = ↑i_1 ∧ Gr 3 σ (List.map insD x_1) x s'' ∧ scanA (seg l (beginP l a) i_1) 0 = x_1 :=
        fun out' tok' s' s3 h1 h2 h3 dd' h5 => ⟨n - 1, by omega, s3, h2, i + 1, by omega, by omega, tok', out', ⟨rfl, rfl⟩, h5, by rw [wrap_i64] <;> omega, h3, h1.symm⟩
      by_cases hd0 : dd = 0
      · by_cases h2 : x.op = 2
        · simp (maxSteps := 2000000) +contextual [e0, e1, e7, e8, e9, insD_length, insD_def, h4, hlt, hx, hx2, hd0, h2, -decide_eq_true_eq, -decide_eq_false_iff_not]
          rw [hd0] at hw2 hdn hon
          refine fin out tok s s (by rw [hon]; simp [h2]) (SLe.refl s) hg _ (by rw [hdn]; simp [h2]; try decide)
        · simp (maxSteps := 2000000) +contextual [e0, e1, e7, e8, e9, insD_length, insD_def, h4, hlt, hx, hx2, hd0, h2, -decide_eq_true_eq, -decide_eq_false_iff_not]
          refine hg.appendT (SLe.refl s) [x] ?_ ?_ ?_ ?_ ?_
          · rfl
          · rfl
          · (try simp); omega
          · (try simp); omega
          intro out1 tok1 s1 s2 ho1 hs1 hk1 hg1
          rw [hd0] at hw1 hdn hon
          by_cases h1 : x.op = 1
          · simp (maxSteps := 2000000) +contextual [e0, e1, e7, e8, e9, insD_length, insD_def, h4, hlt, hx, hx2, hd0, h1, h2, hw1, -decide_eq_true_eq, -decide_eq_false_iff_not]
            exact fin out1 tok1 s1 s2 (by rw [hon, ho1]; simp [h2]) hs1 hg1 _ (by rw [hdn]; simp [h1]; try decide)
          · simp (maxSteps := 2000000) +contextual [e0, e1, e7, e8, e9, insD_length, insD_def, h4, hlt, hx, hx2, hd0, h1, h2, -decide_eq_true_eq, -decide_eq_false_iff_not]
            exact fin out1 tok1 s1 s2 (by rw [hon, ho1]; simp [h2]) hs1 hg1 _ (by rw [hdn]; simp [h1, h2])
      · by_cases h1 : x.op = 1
        · simp (maxSteps := 2000000) +contextual [e0, e1, e7, e8, e9, insD_length, insD_def, h4, hlt, hx, hx2, hd0, h1, hw1, -decide_eq_true_eq, -decide_eq_false_iff_not]
          exact fin out tok s s (by rw [hon]; simp [hd0]) (SLe.refl s) hg _ (by rw [hdn]; simp [h1])
        · by_cases h2 : x.op = 2
          · simp (maxSteps := 2000000) +contextual [e0, e1, e7, e8, e9, insD_length, insD_def, h4, hlt, hx, hx2, hd0, h2, hw2, -decide_eq_true_eq, -decide_eq_false_iff_not]
            exact fin out tok s s (by rw [hon]; simp [hd0]) (SLe.refl s) hg _ (by rw [hdn]; simp [h2])
          · simp (maxSteps := 2000000) +contextual [e0, e1, e7, e8, e9, insD_length, insD_def, h4, hlt, hx, hx2, hd0, h1, h2, -decide_eq_true_eq, -decide_eq_false_iff_not]
            exact fin out tok s s (by rw [hon]; simp [hd0]) (SLe.refl s) hg _ (by rw [hdn]; simp [h1, h2])
    · have hia : i = a := by omega
      subst hia
      simp (maxSteps := 2000000) +contextual [e0, e1, e7, e8, e9, h4, -decide_eq_true_eq, -decide_eq_false_iff_not]
      exact ⟨hg.le, by rw [← ho]; rfl⟩

/-- An attribute's error: those told ahead of it, back to their element. -/
def backA : List Ins → ByteArray → Nat → Nat
  | [], _, _ => 9
  | x :: r, a, n => if isTell x.op then if x.a = a then 9 else backA r a (n + 1) else if 8 ≤ n ∨ isEl x.op = false then 9 else 0
def attrR (l : List Ins) (at' : Nat) (x : Ins) : Nat := backA (l.take at').reverse x.a 0
theorem c_rattr (l : List Ins) (t0 : Tok) (a : Nat) (x : Ins) (hl : l.length ≤ 1048576) (hx : l[a]? = some x) : Ret Try.prog 105 [.list (l.map insD) t0, .int .i64 a] (.int .i64 (attrR l a x)) := by
  refine Ret.of fun σ => ?_
  have ha : a < l.length := (List.getElem?_eq_some_iff.1 hx).1
  have hx2 : l[a] = x := by have := List.getElem?_eq_getElem ha; rw [hx] at this; injection this with this; exact this.symm
  refine HCalls.start mixed false _ _ (fn := Try.f105) (by kernel_rfl) rfl (by kernel_rfl) rfl (by kernel_rfl) (by kernel_rfl) ?_
  simp (maxSteps := 2000000) +contextual [-decide_eq_true_eq, -decide_eq_false_iff_not]
  refine hloop_fix (fun n e => ∃ (k i : Nat), k ≤ n ∧ k + i = a ∧ e 0 = .list (l.map insD) t0 ∧ e 1 = .int .i64 a ∧ e 5 = .int .i64 i ∧ e 6 = .int .i64 ((k : Int) - 1) ∧ attrR l a x = backA (l.take k).reverse x.a i) a ?_ ?_
  · refine ⟨a, 0, Nat.le_refl _, by omega, ?_⟩
    simp (maxSteps := 2000000) +contextual [-decide_eq_true_eq, -decide_eq_false_iff_not]
    exact ⟨by rw [wrap_i64] <;> omega, rfl⟩
  · rintro n e ⟨k, i, hkn, hki, e0, e1, e5, e6, heq⟩
    cases k with
    | zero =>
      have h9 : attrR l a x = 9 := by rw [heq]; simp [backA]
      simp (maxSteps := 2000000) +contextual [e0, e1, e5, e6, h9, -decide_eq_true_eq, -decide_eq_false_iff_not]
    | succ k =>
      have hlt : k < l.length := by omega
      obtain ⟨y, hy, hy2⟩ : ∃ y, l[k]? = some y ∧ l[k] = y := ⟨_, List.getElem?_eq_getElem hlt, rfl⟩
      have hrev : (l.take (k + 1)).reverse = y :: (l.take k).reverse := by rw [take_next hy]; simp
      rw [hrev] at heq
      have e6' : e 6 = .int .i64 (k : Int) := by rw [e6]; congr 2; omega
      have hnn : ¬ (k : Int) < 0 := by omega
      simp (maxSteps := 2000000) +contextual [e0, e1, e5, e6', insD_length, insD_def, hlt, hy, hy2, -decide_eq_true_eq, -decide_eq_false_iff_not]
      refine c_rtells _ _ _ ?_
      cases ht : (decide (y.op = 5) || decide (y.op = 6)) with
      | true =>
        have ht' : isTell y.op = true := ht
        simp only [backA, ht', if_true] at heq
        simp (maxSteps := 2000000) +contextual [e0, e1, e5, e6', insD_length, insD_def, hlt, hy, hy2, -decide_eq_true_eq, -decide_eq_false_iff_not]
        refine hdraw_intro (by kernel_rfl) ?_
        simp (maxSteps := 2000000) +contextual [e0, e1, e5, e6', insD_length, insD_def, hlt, hy, hy2, ha, hx, hx2, -decide_eq_true_eq, -decide_eq_false_iff_not]
        refine ⟨fun h5 => ?_, fun h5 => ?_⟩
        · rw [heq, if_pos (dec_t h5)]; rfl
        · rw [heq, if_neg (dec_f h5)]
          exact ⟨n - 1, by omega, k, by omega, i + 1, by omega, by rw [wrap_i64] <;> omega, by rw [wrap_i64] <;> omega, rfl⟩
      | false =>
        have ht' : isTell y.op = false := ht
        simp only [backA, ht', Bool.false_eq_true, if_false] at heq
        by_cases h8 : 8 ≤ i
        · have h8' : (8 : Int) ≤ i := by omega
          rw [if_pos (.inl h8)] at heq
          simp (maxSteps := 2000000) +contextual [e0, e1, e5, e6', insD_length, insD_def, hlt, hy, hy2, h8', hnn, heq, -decide_eq_true_eq, -decide_eq_false_iff_not]
        · have h8' : ¬ (8 : Int) ≤ i := by omega
          simp (maxSteps := 2000000) +contextual [e0, e1, e5, e6', insD_length, insD_def, hlt, hy, hy2, h8', hnn, -decide_eq_true_eq, -decide_eq_false_iff_not]
          rw [heq]
          by_cases h1 : y.op = 1
          · simp [h1, isEl, h8]
          · by_cases h3 : y.op = 3
            · simp [h3, isEl, h8]
            · simp [h1, h3, isEl]

def hasKey (b : ByteArray) (y : Ins) : Bool := isEl y.op && decide (y.b = b)
/-- An instruction's error, the ones ahead of it being right. -/
def wrongP (l : List Ins) (a : Nat) (x : Ins) : Nat :=
  if mayIns x then
    if isTell x.op then attrR l a x
    else if x.op = 2 then if (stk l a).length = 0 then 8 else 0
    else if (aheadP l a).any (fun y => decide (y.op = 7)) then 11
    else if (isEl x.op && !decide (x.b = ⟨#[]⟩)) && (aheadP l a).any (hasKey x.b) then 10
    else if x.op = 1 ∧ 8 ≤ (stk l a).length then 12 else 0
  else 7
def anyKey (b : ByteArray) (A : List Ins) (i : Nat) : Bool := (A.take i).any (hasKey b)
theorem anyKey_succ {b : ByteArray} {A : List Ins} {i : Nat} {y : Ins} (h : A[i]? = some y) : anyKey b A (i + 1) = (anyKey b A i || hasKey b y) := by simp [anyKey, take_next h]
theorem aheadP_le (l : List Ins) (a : Nat) (ha : a ≤ l.length) : (aheadP l a).length ≤ l.length := by
  have := scanA_le (seg l (beginP l a) a) 0
  have h2 : (seg l (beginP l a) a).length ≤ l.length := by unfold seg; simp; omega
  unfold aheadP; omega
theorem c_wrong (l : List Ins) (t0 : Tok) (a : Nat) (x : Ins) (hl : FitL l) (hx : l[a]? = some x) : Ret Try.prog 74 [.list (l.map insD) t0, .int .i64 a] (.int .i64 (wrongP l a x)) := by
  refine Ret.of fun σ => ?_
  have ha : a < l.length := (List.getElem?_eq_some_iff.1 hx).1
  have hx2 : l[a] = x := by have := List.getElem?_eq_getElem ha; rw [hx] at this; injection this with this; exact this.symm
  have hl1 := hl.1
  refine HCalls.start mixed false _ _ (fn := Try.f74) (by kernel_rfl) rfl (by kernel_rfl) rfl (by kernel_rfl) (by kernel_rfl) ?_
  simp (maxSteps := 2000000) +contextual [insD_length, insD_def, ha, hx, hx2, -decide_eq_true_eq, -decide_eq_false_iff_not]
  intro b hb
  refine c_rmayI x (hl.i (List.mem_of_getElem? hx)) _ _ ?_
  have hS : SLe σ (σ.set b (.cells [.int .i64 x.op, .str x.a, .str x.b])) := (SLe.refl σ).set hb _
  cases hm : mayIns x with
  | false =>
    have hw : wrongP l a x = 7 := by simp [wrongP, hm]
    simp (maxSteps := 2000000) +contextual [hw, -decide_eq_true_eq, -decide_eq_false_iff_not]
    exact hS
  | true =>
    simp (maxSteps := 2000000) +contextual [-decide_eq_true_eq, -decide_eq_false_iff_not]
    refine c_rtells _ _ _ ?_
    cases ht : (decide (x.op = 5) || decide (x.op = 6)) with
    | true =>
      have hw : wrongP l a x = attrR l a x := by simp [wrongP, hm, isTell, ht]
      simp (maxSteps := 2000000) +contextual [hw, -decide_eq_true_eq, -decide_eq_false_iff_not]
      refine c_rattr l t0 a x hl1 hx _ _ ?_
      simp (maxSteps := 2000000) +contextual [hw, -decide_eq_true_eq, -decide_eq_false_iff_not]
      exact hS
    | false =>
      have ht' : isTell x.op = false := ht
      simp (maxSteps := 2000000) +contextual [-decide_eq_true_eq, -decide_eq_false_iff_not]
      refine c_begin l t0 a hl1 (by omega) _ _ ?_
      by_cases h2 : x.op = 2
      · have hw : wrongP l a x = if (stk l a).length = 0 then 8 else 0 := by simp [wrongP, hm, isTell, h2]
        rw [hw]
        by_cases hz : (stk l a).length = 0
        · have hz' : ((stk l a).length : Int) = 0 := by omega
          simp (maxSteps := 2000000) +contextual [h2, hz, hz', -decide_eq_true_eq, -decide_eq_false_iff_not]
          rw [h2] at hS; exact hS
        · have hz' : ¬ ((stk l a).length : Int) = 0 := by omega
          simp (maxSteps := 2000000) +contextual [h2, hz, hz', -decide_eq_true_eq, -decide_eq_false_iff_not]
          rw [h2] at hS; exact hS
      · simp (maxSteps := 2000000) +contextual [h2, -decide_eq_true_eq, -decide_eq_false_iff_not]
        refine c_ahead l t0 a hl1 (by omega) _ _ fun tk => ?_
        have hal := aheadP_le l a (by omega)
        simp (maxSteps := 2000000) +contextual [h2, -decide_eq_true_eq, -decide_eq_false_iff_not]
        generalize hA : aheadP l a = A at *
        let no7 : Ins → Bool := fun y => !decide (y.op = 7)
        have hw : wrongP l a x = if A.any (fun y => decide (y.op = 7)) then 11 else if (isEl x.op && !decide (x.b = ⟨#[]⟩)) && A.any (hasKey x.b) then 10 else if x.op = 1 ∧ 8 ≤ (stk l a).length then 12 else 0 := by
          unfold wrongP; rw [if_pos hm, ht', if_neg h2, hA]; rfl
        refine hloop_intro (fun n e s => ∃ (i : Nat), i + n = A.length ∧ e 5 = .ptr b 0 ∧ e 8 = .int .i64 (stk l a).length ∧ e 9 = .list (A.map insD) tk ∧ e 10 = .bool (anyKey x.b A i) ∧ e 11 = .int .i64 i ∧ SLe (σ.set b (.cells [.int .i64 x.op, .str x.a, .str x.b])) s ∧ Front no7 A i) A.length ?_ ?_
        · exact ⟨0, by simp [Front.zero, anyKey]⟩
        · rintro n e s ⟨i, hi, e5, e8, e9, e10, e11, hs, hf⟩
          have hsb : s b = some (.cells [.int .i64 x.op, .str x.a, .str x.b]) := hs _ _ (by simp)
          by_cases h4 : i < A.length
          · obtain ⟨y, hy, hy2⟩ : ∃ y, A[i]? = some y ∧ A[i] = y := ⟨_, List.getElem?_eq_getElem h4, rfl⟩
            have hnk := anyKey_succ (b := x.b) hy
            have fin : ∀ s' : Store, SLe s s' → ¬ y.op = 7 → ∀ v, v = anyKey x.b A (i + 1) → ∃ m, m < n ∧ ∃ s'', SLe s'' s' ∧ ∃ i_1 : Nat, i_1 + m = A.length ∧ v = anyKey x.b A i_1 ∧ IntKind.i64.wrap (↑i + 1) = ↑i_1 ∧ SLe (σ.set b (.cells [.int .i64 x.op, .str x.a, .str x.b])) s'' ∧ Front no7 A i_1 := fun s' h1 h2 v hv =>
              ⟨n - 1, by omega, s, h1, i + 1, by omega, hv, by rw [wrap_i64] <;> omega, hs, hf.succ hy (by simp [no7, h2])⟩
            have fin2 : ∀ s' : Store, SLe s s' → ¬ y.op = 7 → ∀ v, anyKey x.b A (i + 1) = v → ∃ m, m < n ∧ ∃ s'', SLe s'' s' ∧ ∃ i_1 : Nat, i_1 + m = A.length ∧ anyKey x.b A i_1 = v ∧ IntKind.i64.wrap (↑i + 1) = ↑i_1 ∧ SLe (σ.set b (.cells [.int .i64 x.op, .str x.a, .str x.b])) s'' ∧ Front no7 A i_1 := fun s' h1 h2 v hv =>
              ⟨n - 1, by omega, s, h1, i + 1, by omega, hv, by rw [wrap_i64] <;> omega, hs, hf.succ hy (by simp [no7, h2])⟩
            simp (maxSteps := 2000000) +contextual [e5, e8, e9, e10, e11, insD_length, insD_def, h4, hy, hy2, hsb, -decide_eq_true_eq, -decide_eq_false_iff_not]
            intro b2 hb2
            have hbb : b ≠ b2 := fun e => by subst e; rw [hsb] at hb2; cases hb2
            have hss : SLe s (s.set b2 (.cells [.int .i64 y.op, .str y.a, .str y.b])) := (SLe.refl s).set hb2 _
            by_cases h7 : y.op = 7
            · have : wrongP l a x = 11 := by
                rw [hw, if_pos]
                exact List.any_eq_true.2 ⟨y, List.mem_of_getElem? hy, by simp [h7]⟩
              simp (maxSteps := 2000000) +contextual [e5, e8, e9, e10, e11, h7, this, -decide_eq_true_eq, -decide_eq_false_iff_not]
              rw [h7] at hss
              exact (hS.trans hs).trans hss
            · cases hk : anyKey x.b A i with
              | true =>
                rw [hk] at hnk
                by_cases h1 : y.op = 1
                · simp (maxSteps := 2000000) +contextual [e5, e8, e9, e10, e11, h1, hk, hsb, hbb, -decide_eq_true_eq, -decide_eq_false_iff_not]
                  rw [h1] at hss
                  exact fin2 _ hss h7 _ (by rw [hnk]; rfl)
                · by_cases h3 : y.op = 3
                  · simp (maxSteps := 2000000) +contextual [e5, e8, e9, e10, e11, h3, hk, hsb, hbb, -decide_eq_true_eq, -decide_eq_false_iff_not]
                    rw [h3] at hss
                    exact fin2 _ hss h7 _ (by rw [hnk]; rfl)
                  · simp (maxSteps := 2000000) +contextual [e5, e8, e9, e10, e11, h1, h3, h7, hk, hsb, hbb, -decide_eq_true_eq, -decide_eq_false_iff_not]
                    exact fin2 _ hss h7 _ (by rw [hnk]; rfl)
              | false =>
                rw [hk, Bool.false_or] at hnk
                by_cases h1 : y.op = 1
                · simp (maxSteps := 2000000) +contextual [e5, e8, e9, e10, e11, h1, hk, hsb, hbb, -decide_eq_true_eq, -decide_eq_false_iff_not]
                  rw [h1] at hss
                  exact fin _ hss h7 _ (by rw [hnk]; simp [hasKey, isEl, h1])
                · by_cases h3 : y.op = 3
                  · simp (maxSteps := 2000000) +contextual [e5, e8, e9, e10, e11, h3, hk, hsb, hbb, -decide_eq_true_eq, -decide_eq_false_iff_not]
                    rw [h3] at hss
                    exact fin _ hss h7 _ (by rw [hnk]; simp [hasKey, isEl, h3])
                  · simp (maxSteps := 2000000) +contextual [e5, e8, e9, e10, e11, h1, h3, h7, hk, hsb, hbb, -decide_eq_true_eq, -decide_eq_false_iff_not]
                    exact fin2 _ hss h7 _ (by rw [hnk]; simp [hasKey, isEl, h1, h3])
          · have hall : A.any (fun y => decide (y.op = 7)) = false := by
              have := hf.all (by omega)
              rw [List.any_eq_false]
              intro y hy
              have := List.all_eq_true.1 this y hy
              simpa [no7] using this
            have hk : anyKey x.b A i = A.any (hasKey x.b) := by unfold anyKey; rw [List.take_of_length_le (by omega)]
            rw [hall, ← hk] at hw
            have hle := hS.trans hs
            cases hkv : anyKey x.b A i <;> rw [hkv] at hw <;> by_cases h1 : x.op = 1 <;> by_cases h3 : x.op = 3 <;> by_cases hbE : x.b = ⟨#[]⟩ <;> by_cases h8 : 8 ≤ (stk l a).length
            all_goals
              have h8' : ((8 : Int) ≤ (stk l a).length) = (8 ≤ (stk l a).length) := by apply propext; omega
              first
              | (exfalso; omega)
              | (simp (maxSteps := 2000000) +contextual [e5, e8, e9, e10, e11, insD_length, insD_def, h4, hsb, hkv, h1, h3, hbE, h8, h8', -decide_eq_true_eq, -decide_eq_false_iff_not]
                 refine ⟨hle, ?_⟩
                 rw [hw]
                 simp [isEl, h1, h3, hbE, h8])

def runR (l : List Ins) : List Ins → Nat → Nat
  | [], _ => 0
  | x :: r, i => if wrongP l i x = 0 then runR l r (i + 1) else wrongP l i x
def checkR (l : List Ins) : Nat := if 120 < l.length then 13 else if runR l l 0 = 0 then if 0 < (stk l l.length).length then 8 else 0 else runR l l 0
theorem c_rcheck (l : List Ins) (t0 : Tok) (hl : FitL l) : Ret Try.prog 32 [.list (l.map insD) t0] (.int .i64 (checkR l)) := by
  refine Ret.of fun σ => ?_
  have hl1 := hl.1
  refine HCalls.start mixed false _ _ (fn := Try.f32) (by kernel_rfl) rfl (by kernel_rfl) rfl (by kernel_rfl) (by kernel_rfl) ?_
  by_cases h120 : 120 < l.length
  · have h2 : (120 : Int) < l.length := by omega
    have : checkR l = 13 := by simp [checkR, h120]
    simp (maxSteps := 2000000) +contextual [h2, this, -decide_eq_true_eq, -decide_eq_false_iff_not]
  · have h2 : ¬ (120 : Int) < l.length := by omega
    simp (maxSteps := 2000000) +contextual [h2, -decide_eq_true_eq, -decide_eq_false_iff_not]
    refine hloop_fix (fun n e => ∃ i : Nat, i + n = l.length ∧ e 0 = .list (l.map insD) t0 ∧ e 3 = .int .i64 i ∧ runR l l 0 = runR l (l.drop i) i) l.length ?_ ?_
    · exact ⟨0, by simp⟩
    · rintro n e ⟨i, hi, e0, e3, heq⟩
      by_cases h4 : i < l.length
      · obtain ⟨x, hx, hx2⟩ : ∃ x, l[i]? = some x ∧ l[i] = x := ⟨_, List.getElem?_eq_getElem h4, rfl⟩
        have hdrop : l.drop i = x :: l.drop (i + 1) := by rw [List.drop_eq_getElem_cons h4, hx2]
        rw [hdrop] at heq
        simp only [runR] at heq
        simp (maxSteps := 2000000) +contextual [e0, e3, h4, -decide_eq_true_eq, -decide_eq_false_iff_not]
        refine c_wrong l t0 i x hl hx _ _ ?_
        by_cases hw : wrongP l i x = 0
        · have hw' : (wrongP l i x : Int) = 0 := by omega
          rw [if_pos hw] at heq
          simp (maxSteps := 2000000) +contextual [e0, e3, h4, hw, hw', -decide_eq_true_eq, -decide_eq_false_iff_not]
          exact ⟨n - 1, by omega, i + 1, by omega, by rw [wrap_i64] <;> omega, heq⟩
        · have hw' : ¬ (wrongP l i x : Int) = 0 := by omega
          rw [if_neg hw] at heq
          have : checkR l = wrongP l i x := by simp [checkR, h120, heq, hw]
          simp (maxSteps := 2000000) +contextual [e0, e3, h4, hw, hw', this, -decide_eq_true_eq, -decide_eq_false_iff_not]
      · have hdr : l.drop i = [] := List.drop_eq_nil_of_le (by omega)
        rw [hdr] at heq
        simp only [runR] at heq
        simp (maxSteps := 2000000) +contextual [e0, e3, h4, -decide_eq_true_eq, -decide_eq_false_iff_not]
        refine c_begin l t0 l.length hl1 (Nat.le_refl _) _ _ ?_
        by_cases h0 : 0 < (stk l l.length).length
        · have h0' : (0 : Int) < (stk l l.length).length := by omega
          have : checkR l = 8 := by simp [checkR, h120, heq, h0]
          simp (maxSteps := 2000000) +contextual [e0, e3, h0', this, -decide_eq_true_eq, -decide_eq_false_iff_not]
          exact decide_eq_true h0
        · have h0' : ¬ (0 : Int) < (stk l l.length).length := by omega
          have : checkR l = 0 := by simp only [checkR, if_neg h120, heq, if_neg h0]; rfl
          simp (maxSteps := 2000000) +contextual [e0, e3, h0', this, -decide_eq_true_eq, -decide_eq_false_iff_not]
          exact decide_eq_false h0
end Go.HL
