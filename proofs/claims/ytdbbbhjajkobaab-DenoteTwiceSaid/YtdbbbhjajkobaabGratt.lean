/- Attributes joined, and new ones: the document's answer. -/
import Derived.Test.YtdbbbhjajkobaabGlawc
import Derived.Test.YtdbbbhjajkobaabGwish
import Derived.Test.YtdbbbhjajkobaabH3
set_option linter.unusedVariables false
set_option linter.unusedSimpArgs false
set_option maxRecDepth 100000
set_option maxHeartbeats 4000000
namespace Go.HL
open Go.RowKit Go.Proofs

theorem some_next {l : List Attr} {i : Nat} {x : Attr} (h : l[i]? = some x) (st : Bool) : someA (l.take (i + 1)) st = someA (l.take i) st ++ if x.static = st then [x] else [] := by
  unfold someA
  rw [take_next h, List.filter_append]
  by_cases hs : x.static = st <;> simp [hs]
theorem some_len (l : List Attr) (st : Bool) (i : Nat) : (someA (l.take i) st).length ≤ l.length := Nat.le_trans (someA_le _ _) (by simp; omega)
/-- Was it met? -/
def metA (out : List Attr) (a : Attr) (k : Nat) : Bool := a.static || (out.take k).any fun b => decide (b.name = a.name)
def raddA (out : List Attr) (a : Attr) : List Attr := if metA out a out.length then out else out ++ [a]
theorem metA_next {out : List Attr} {k : Nat} {b : Attr} (h : out[k]? = some b) (a : Attr) : metA out a (k + 1) = (metA out a k || decide (b.name = a.name)) := by
  unfold metA
  rw [take_next h, List.any_append]
  simp [Bool.or_assoc]
theorem raddA_le (out : List Attr) (a : Attr) : (raddA out a).length ≤ out.length + 1 := by unfold raddA; split <;> simp
theorem rfold_le (l : List Attr) (out : List Attr) : (l.foldl raddA out).length ≤ out.length + l.length := by
  induction l generalizing out with
  | nil => simp
  | cons a l ih =>
    have := ih (raddA out a)
    have := raddA_le out a
    simp only [List.foldl_cons, List.length_cons]; omega
theorem radd_eq (out : List Attr) (a : Attr) : raddA out a = if a.static then out else addA out a := by
  unfold raddA metA addA
  rw [List.take_length]
  cases hs : a.static with
  | true => simp
  | false =>
    simp only [Bool.false_or, Bool.false_eq_true, if_false]
    have h := idx_range (fun b : Attr => decide (b.name = a.name)) out
    rcases h with h | h
    · rw [h.2]
      have : atA out a.name < 0 := by unfold atA; rw [h.1]; decide
      simp [this]
    · rw [h.2.2]
      have : ¬ atA out a.name < 0 := by unfold atA; omega
      simp [this]
theorem rfold_eq (m : List Attr) (out : List Attr) : m.foldl raddA out = (someA m false).foldl addA out := by
  induction m generalizing out with
  | nil => rfl
  | cons a m ih =>
    rw [List.foldl_cons, ih, radd_eq]
    unfold someA
    cases hs : a.static <;> simp [hs]
theorem c_rnewA (l : List Attr) (tok : Tok) (hl : l.length ≤ 1048576) : Ret Try.prog 72 [.list (l.map attrD) tok] (.list ((newA l).map attrD) .ro) := by
  refine Ret.weak fun σ => ?_
  refine HCalls.start mixed false _ _ (fn := Try.f72) (by kernel_rfl) rfl (by kernel_rfl) rfl (by kernel_rfl) (by kernel_rfl) ?_
  simp (maxSteps := 2000000) +contextual [-decide_eq_true_eq, -decide_eq_false_iff_not]
  refine hloop_cut 0 (fun e s => ∃ tk, e 0 = .list (l.map attrD) tok ∧ e 3 = .list ((someA l true).map attrD) tk ∧ GrV 3 σ ((someA l true).map attrD) tk s ∧ SLe σ s) ?_ ?_
  · refine hloop_intro (fun n e s => ∃ (i : Nat) (out : List Attr) (tk : Tok), i + n = l.length ∧ e 0 = .list (l.map attrD) tok ∧ e 3 = .list (out.map attrD) tk ∧ e 4 = .int .i64 i ∧ GrV 3 σ (out.map attrD) tk s ∧ SLe σ s ∧ Sm out (someA (l.take i) true)) l.length ?_ ?_
    · refine ⟨0, [], .nil, by simp, ?_⟩
      simp (maxSteps := 2000000) +contextual [-decide_eq_true_eq, -decide_eq_false_iff_not]
      exact ⟨.nil _, rfl⟩
    · rintro n e s ⟨i, out, tk, hi, e0, e3, e4, gG, hs, hout⟩
      have hout : out = _ := hout
      by_cases h4 : i < l.length
      · obtain ⟨x, hx, hx2⟩ : ∃ x, l[i]? = some x ∧ l[i] = x := ⟨_, List.getElem?_eq_getElem h4, rfl⟩
        have hnx := some_next hx true
        have hln := some_len l true i
        rw [← hout] at hln
        cases hst : x.static with
        | true =>
          rw [if_pos hst] at hnx
          simp (maxSteps := 2000000) +contextual [e0, e3, e4, h4, hx, hx2, attrD_length, attrD_def, hst, -decide_eq_true_eq, -decide_eq_false_iff_not]
          rw [show [D.str x.name, D.str x.value, D.lit (Value.bool true)] = attrD x by rw [attrD_def, hst]]
          refine gG.appendT hs [x] rfl rfl (by simp; omega) (by simp only [List.length_singleton]; omega) ?_
          intro out' tk' s' hout' q1 q2 q3 q4
          simp (maxSteps := 2000000) +contextual [e0, e3, e4, -decide_eq_true_eq, -decide_eq_false_iff_not]
          exact ⟨n - 1, by omega, s', SLe.refl _, i + 1, by omega, out', tk', ⟨rfl, rfl⟩, by rw [wrap_i64] <;> omega, q4, q1, by show out' = _; rw [hout', hout, hnx]⟩
        | false =>
          rw [if_neg (by simp [hst])] at hnx
          simp (maxSteps := 2000000) +contextual [e0, e3, e4, h4, hx, hx2, attrD_length, attrD_def, hst, -decide_eq_true_eq, -decide_eq_false_iff_not]
          exact ⟨n - 1, by omega, s, SLe.refl _, i + 1, by omega, out, tk, ⟨rfl, rfl⟩, by rw [wrap_i64] <;> omega, gG, hs, by show out = _; rw [hout, hnx]; simp⟩
      · rw [List.take_of_length_le (by omega)] at hout
        simp (maxSteps := 2000000) +contextual [e0, e3, e4, h4, -decide_eq_true_eq, -decide_eq_false_iff_not]
        rw [hout] at gG ⊢
        exact ⟨tk, ⟨rfl, rfl⟩, gG, hs⟩
  · rintro e s ⟨tk, e0, e3, gG, hs⟩
    simp (maxSteps := 2000000) +contextual [e0, e3, -decide_eq_true_eq, -decide_eq_false_iff_not]
    refine hloop_intro (fun n e s => ∃ (i : Nat) (out : List Attr) (tk : Tok), i + n = l.length ∧ e 0 = .list (l.map attrD) tok ∧ e 3 = .list (out.map attrD) tk ∧ e 5 = .int .i64 i ∧ GrV 3 σ (out.map attrD) tk s ∧ SLe σ s ∧ Sm out (someA l true ++ someA (l.take i) false)) l.length ?_ ?_
    · refine ⟨0, someA l true, tk, by simp, ?_⟩
      simp (maxSteps := 2000000) +contextual [e0, e3, -decide_eq_true_eq, -decide_eq_false_iff_not]
      exact ⟨gG, hs, by show _ = _; simp [someA]⟩
    · rintro n e s ⟨i, out, tk, hi, e0, e3, e4, gG, hs, hout⟩
      have hout : out = _ := hout
      by_cases h4 : i < l.length
      · obtain ⟨x, hx, hx2⟩ : ∃ x, l[i]? = some x ∧ l[i] = x := ⟨_, List.getElem?_eq_getElem h4, rfl⟩
        have hnx := some_next hx false
        have hln : out.length ≤ l.length + l.length := by
          have h1 := some_len l false i
          have h2 := someA_le l true
          rw [hout, List.length_append]; omega
        cases hst : x.static with
        | false =>
          rw [if_pos hst] at hnx
          simp (maxSteps := 2000000) +contextual [e0, e3, e4, h4, hx, hx2, attrD_length, attrD_def, hst, -decide_eq_true_eq, -decide_eq_false_iff_not]
          rw [show [D.str x.name, D.str x.value, D.lit (Value.bool false)] = attrD x by rw [attrD_def, hst]]
          refine gG.appendT hs [x] rfl rfl (by simp; omega) (by simp only [List.length_singleton]; omega) ?_
          intro out' tk' s' hout' q1 q2 q3 q4
          simp (maxSteps := 2000000) +contextual [e0, e3, e4, -decide_eq_true_eq, -decide_eq_false_iff_not]
          exact ⟨n - 1, by omega, s', SLe.refl _, i + 1, by omega, out', tk', ⟨rfl, rfl⟩, by rw [wrap_i64] <;> omega, q4, q1, by show out' = _; rw [hout', hout, hnx]; simp⟩
        | true =>
          rw [if_neg (by simp [hst])] at hnx
          simp (maxSteps := 2000000) +contextual [e0, e3, e4, h4, hx, hx2, attrD_length, attrD_def, hst, -decide_eq_true_eq, -decide_eq_false_iff_not]
          exact ⟨n - 1, by omega, s, SLe.refl _, i + 1, by omega, out, tk, ⟨rfl, rfl⟩, by rw [wrap_i64] <;> omega, gG, hs, by show out = _; rw [hout, hnx]; simp⟩
      · rw [List.take_of_length_le (by omega)] at hout
        simp (maxSteps := 2000000) +contextual [e0, e3, e4, h4, -decide_eq_true_eq, -decide_eq_false_iff_not]
        rw [hout]
        exact ⟨hs, .list _ _⟩
theorem c_rjoinA (l m : List Attr) (t0 t1 : Tok) (hl : l.length ≤ 1048576) (hm : m.length ≤ 1048576) : Ret Try.prog 71 [.list (l.map attrD) t0, .list (m.map attrD) t1] (.list ((joinA l m).map attrD) .ro) := by
  refine Ret.weak fun σ => ?_
  refine HCalls.start mixed false _ _ (fn := Try.f71) (by kernel_rfl) rfl (by kernel_rfl) rfl (by kernel_rfl) (by kernel_rfl) ?_
  simp (maxSteps := 2000000) +contextual [-decide_eq_true_eq, -decide_eq_false_iff_not]
  refine hloop_cut 0 (fun e s => ∃ (out : List Attr) (tk : Tok), e 1 = .list (m.map attrD) t1 ∧ e 5 = .list (out.map attrD) tk ∧ GrV 3 σ (out.map attrD) tk s ∧ SLe σ s ∧ Sm out (someA l true)) ?_ ?_
  · refine hloop_intro (fun n e s => ∃ (i : Nat) (out : List Attr) (tk : Tok), i + n = l.length ∧ e 0 = .list (l.map attrD) t0 ∧ e 1 = .list (m.map attrD) t1 ∧ e 5 = .list (out.map attrD) tk ∧ e 6 = .int .i64 i ∧ GrV 3 σ (out.map attrD) tk s ∧ SLe σ s ∧ Sm out (someA (l.take i) true)) l.length ?_ ?_
    · refine ⟨0, [], .nil, by simp, ?_⟩
      simp (maxSteps := 2000000) +contextual [-decide_eq_true_eq, -decide_eq_false_iff_not]
      exact ⟨.nil _, rfl⟩
    · rintro n e s ⟨i, out, tk, hi, e0, e1, e3, e4, gG, hs, hout⟩
      have hout : out = _ := hout
      by_cases h4 : i < l.length
      · obtain ⟨x, hx, hx2⟩ : ∃ x, l[i]? = some x ∧ l[i] = x := ⟨_, List.getElem?_eq_getElem h4, rfl⟩
        have hnx := some_next hx true
        have hln := some_len l true i
        rw [← hout] at hln
        cases hst : x.static with
        | true =>
          rw [if_pos hst] at hnx
          simp (maxSteps := 2000000) +contextual [e0, e1, e3, e4, h4, hx, hx2, attrD_length, attrD_def, hst, -decide_eq_true_eq, -decide_eq_false_iff_not]
          rw [show [D.str x.name, D.str x.value, D.lit (Value.bool true)] = attrD x by rw [attrD_def, hst]]
          refine gG.appendT hs [x] rfl rfl (by simp; omega) (by simp only [List.length_singleton]; omega) ?_
          intro out' tk' s' hout' q1 q2 q3 q4
          simp (maxSteps := 2000000) +contextual [e0, e1, e3, e4, -decide_eq_true_eq, -decide_eq_false_iff_not]
          exact ⟨n - 1, by omega, s', SLe.refl _, i + 1, by omega, out', tk', ⟨rfl, rfl⟩, by rw [wrap_i64] <;> omega, q4, q1, by show out' = _; rw [hout', hout, hnx]⟩
        | false =>
          rw [if_neg (by simp [hst])] at hnx
          simp (maxSteps := 2000000) +contextual [e0, e1, e3, e4, h4, hx, hx2, attrD_length, attrD_def, hst, -decide_eq_true_eq, -decide_eq_false_iff_not]
          exact ⟨n - 1, by omega, s, SLe.refl _, i + 1, by omega, out, tk, ⟨rfl, rfl⟩, by rw [wrap_i64] <;> omega, gG, hs, by show out = _; rw [hout, hnx]; simp⟩
      · rw [List.take_of_length_le (by omega)] at hout
        simp (maxSteps := 2000000) +contextual [e0, e1, e3, e4, h4, -decide_eq_true_eq, -decide_eq_false_iff_not]
        exact ⟨out, tk, ⟨rfl, rfl⟩, gG, hs, hout⟩
  · rintro e s ⟨out, tk, e1, e5, gG, hs, hout⟩
    have hout : out = _ := hout
    simp (maxSteps := 2000000) +contextual [e1, e5, -decide_eq_true_eq, -decide_eq_false_iff_not]
    refine hloop_cut 2 (fun e s => ∃ (out : List Attr) (tk : Tok), e 5 = .list (out.map attrD) tk ∧ SLe σ s ∧ Sm out (m.foldl raddA (someA l true))) ?_ ?_
    · refine hloop_intro (fun n e s => ∃ (i : Nat) (out : List Attr) (tk : Tok), i + n = m.length ∧ e 1 = .list (m.map attrD) t1 ∧ e 5 = .list (out.map attrD) tk ∧ e 7 = .int .i64 i ∧ GrV 3 σ (out.map attrD) tk s ∧ SLe σ s ∧ Sm out ((m.take i).foldl raddA (someA l true))) m.length ?_ ?_
      · refine ⟨0, out, tk, by simp, ?_⟩
        simp (maxSteps := 2000000) +contextual [e1, e5, -decide_eq_true_eq, -decide_eq_false_iff_not]
        exact ⟨gG, hs, hout⟩
      · rintro n e s ⟨i, out, tk, hi, e1, e5, e7, gG, hs, hout⟩
        have hout : out = _ := hout
        by_cases h4 : i < m.length
        · obtain ⟨x, hx, hx2⟩ : ∃ x, m[i]? = some x ∧ m[i] = x := ⟨_, List.getElem?_eq_getElem h4, rfl⟩
          have hnx : (m.take (i + 1)).foldl raddA (someA l true) = raddA ((m.take i).foldl raddA (someA l true)) x := by rw [take_next hx, List.foldl_append]; rfl
          have hln : out.length ≤ l.length + m.length := by
            have h1 := rfold_le (m.take i) (someA l true)
            have h2 := someA_le l true
            have h3 : (m.take i).length ≤ m.length := by simp; omega
            rw [hout]; omega
          simp (maxSteps := 2000000) +contextual [e1, e5, e7, h4, hx, hx2, attrD_length, attrD_def, -decide_eq_true_eq, -decide_eq_false_iff_not]
          refine hloop_cut 4 (fun e s' => s' = s ∧ e 1 = .list (m.map attrD) t1 ∧ e 5 = .list (out.map attrD) tk ∧ e 7 = .int .i64 i ∧ e 8 = .bool (metA out x out.length)) ?_ ?_
          · refine hloop_fix (fun n e => ∃ (k : Nat), k + n = out.length ∧ e 1 = .list (m.map attrD) t1 ∧ e 5 = .list (out.map attrD) tk ∧ e 7 = .int .i64 i ∧ e 8 = .bool (metA out x k) ∧ e 9 = .int .i64 k) out.length ?_ ?_
            · refine ⟨0, by simp, ?_⟩
              simp (maxSteps := 2000000) +contextual [e1, e5, e7, -decide_eq_true_eq, -decide_eq_false_iff_not]
              simp [metA]
            · rintro n1 e ⟨k, hk, e1, e5, e7, e8, e9⟩
              by_cases hk4 : k < out.length
              · obtain ⟨y, hy, hy2⟩ : ∃ y, out[k]? = some y ∧ out[k] = y := ⟨_, List.getElem?_eq_getElem hk4, rfl⟩
                have hmn := metA_next hy x
                simp (maxSteps := 2000000) +contextual [e1, e5, e7, e8, e9, hk4, -decide_eq_true_eq, -decide_eq_false_iff_not]
                refine hdraw_intro (by kernel_rfl) ?_
                cases hmm : metA out x k with
                | true =>
                  rw [hmm, Bool.true_or] at hmn
                  rw [hmm] at e8
                  simp (maxSteps := 2000000) +contextual [e1, e5, e7, e8, e9, -decide_eq_true_eq, -decide_eq_false_iff_not]
                  exact ⟨n1 - 1, by omega, k + 1, by omega, hmn, by rw [wrap_i64] <;> omega⟩
                | false =>
                  rw [hmm, Bool.false_or] at hmn
                  rw [hmm] at e8
                  simp (maxSteps := 2000000) +contextual [e1, e5, e7, e8, e9, hk4, hy, hy2, hx, hx2, h4, attrD_length, attrD_def, -decide_eq_true_eq, -decide_eq_false_iff_not]
                  exact ⟨n1 - 1, by omega, k + 1, by omega, hmn.symm, by rw [wrap_i64] <;> omega⟩
              · have hkk : k = out.length := by omega
                subst hkk
                simp (maxSteps := 2000000) +contextual [e1, e5, e7, e8, e9, hk4, -decide_eq_true_eq, -decide_eq_false_iff_not]
          · rintro e s' ⟨rfl, e1, e5, e7, e8⟩
            cases hmm : metA out x out.length with
            | true =>
              rw [hmm] at e8
              have hra : raddA out x = out := by unfold raddA; rw [hmm]; rfl
              simp (maxSteps := 2000000) +contextual [e1, e5, e7, e8, -decide_eq_true_eq, -decide_eq_false_iff_not]
              exact ⟨n - 1, by omega, s', SLe.refl _, i + 1, by omega, out, tk, ⟨rfl, rfl⟩, by rw [wrap_i64] <;> omega, gG, hs, by show out = _; rw [hnx, ← hout, hra]⟩
            | false =>
              rw [hmm] at e8
              have hra : raddA out x = out ++ [x] := by unfold raddA; rw [hmm]; rfl
              simp (maxSteps := 2000000) +contextual [e1, e5, e7, e8, h4, hx, hx2, attrD_length, attrD_def, -decide_eq_true_eq, -decide_eq_false_iff_not]
              rw [← attrD_def]
              refine gG.appendT hs [x] rfl rfl (by simp; omega) (by simp only [List.length_singleton]; omega) ?_
              intro out' tk' s2 hout' q1 q2 q3 q4
              simp (maxSteps := 2000000) +contextual [e1, e5, e7, -decide_eq_true_eq, -decide_eq_false_iff_not]
              exact ⟨n - 1, by omega, s2, SLe.refl _, i + 1, by omega, out', tk', ⟨rfl, rfl⟩, by rw [wrap_i64] <;> omega, q4, q1, by show out' = _; rw [hnx, ← hout, hra, hout']⟩
        · rw [List.take_of_length_le (by omega)] at hout
          simp (maxSteps := 2000000) +contextual [e1, e5, e7, h4, -decide_eq_true_eq, -decide_eq_false_iff_not]
          exact ⟨out, rfl, hs, hout⟩
    · rintro e s ⟨out, tk, e5, hs, hout⟩
      have hout : out = _ := hout
      rw [rfold_eq] at hout
      have hj : joinA l m = out.take 8 := by rw [hout]; rfl
      by_cases h8 : 8 < (out.length : Int)
      · simp (maxSteps := 2000000) +contextual [e5, decide_eq_true h8, attrD_length, -decide_eq_true_eq, -decide_eq_false_iff_not]
        rw [hj, ← List.map_take]
        exact ⟨by omega, hs, .refl _⟩
      · simp (maxSteps := 2000000) +contextual [e5, decide_eq_false h8, -decide_eq_true_eq, -decide_eq_false_iff_not]
        have : out.take 8 = out := List.take_of_length_le (by omega)
        rw [hj, this]
        exact ⟨hs, .list _ _⟩
end Go.HL
