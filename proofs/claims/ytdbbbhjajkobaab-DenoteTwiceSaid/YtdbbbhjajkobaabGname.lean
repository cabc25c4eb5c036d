/- Names and texts: what the program's layer 1 does. -/
import Derived.Test.YtdbbbhjajkobaabH2
import Derived.Test.YtdbbbhjajkobaabTy
set_option linter.unusedVariables false
set_option linter.unusedSimpArgs false
set_option maxRecDepth 100000
namespace Go.HL
open Go.RowKit Go.Proofs

def at_ (b : ByteArray) (i : Nat) : Int := ((b.get! i).toNat : Int)
def letter (c : Int) : Bool := decide (97 ≤ c) && decide (c ≤ 122)
theorem size_pos {b : ByteArray} (h : ¬ b = ⟨#[]⟩) : 0 < b.size := by
  rcases Nat.eq_zero_or_pos b.size with h0 | h0
  · exact absurd (ByteArray.size_eq_zero_iff.1 h0) h
  · exact h0
theorem c_letter (c : Int) : Ret Try.prog 136 [D.int .u8 c] (.bool (letter c)) := by
  refine Ret.of fun σ => ?_
  refine HCalls.start mixed false _ _ (fn := Try.f136) (by kernel_rfl) rfl (by kernel_rfl) rfl (by kernel_rfl) (by kernel_rfl) ?_
  simp (maxSteps := 2000000) +contextual [letter, -decide_eq_true_eq, -decide_eq_false_iff_not]
def okc (c : Int) : Bool := letter c || (decide (48 ≤ c) && decide (c ≤ 57)) || decide (c = 45)
def mayName (b : ByteArray) : Bool := decide (b.size ≠ 0) && decide (b.size ≤ 12) && letter (at_ b 0) && (List.range b.size).all fun j => okc (at_ b j)
theorem c_may (b : ByteArray) : Ret Try.prog 106 [D.str b] (.bool (mayName b)) := by
  refine Ret.of fun σ => ?_
  refine HCalls.start mixed false _ _ (fn := Try.f106) (by kernel_rfl) rfl (by kernel_rfl) rfl (by kernel_rfl) (by kernel_rfl) ?_
  simp (maxSteps := 2000000) +contextual [-decide_eq_true_eq, -decide_eq_false_iff_not]
  refine ⟨fun h1 => ⟨fun h2 => ⟨?_, ?_⟩, fun h2 => ?_⟩, fun h1 => ?_⟩
  · exact size_pos (dec_f h1)
  · refine c_letter _ _ _ ?_
    simp (maxSteps := 2000000) +contextual [h1, h2, -decide_eq_true_eq, -decide_eq_false_iff_not]
    refine ⟨fun h3 => ?_, fun h3 => ?_⟩
    · simp [mayName, at_, h3]
    · refine hloop_fix (fun n e => ∃ i : Nat, i + n = b.size ∧ e 0 = .str b ∧ e 19 = .int .i64 b.size ∧ e 20 = .int .i64 i ∧ ∀ j, j < i → okc (at_ b j) = true) b.size ?_ ?_
      · exact ⟨0, by simp⟩
      · rintro n e ⟨i, hi, e0, e19, e20, hok⟩
        simp (maxSteps := 2000000) +contextual [e0, e19, e20, -decide_eq_true_eq, -decide_eq_false_iff_not]
        refine ⟨fun h4 => ⟨by simpa using h4, c_letter _ _ _ ?_⟩, fun h4 => ?_⟩
        · simp (maxSteps := 2000000) +contextual [e0, e19, e20, -decide_eq_true_eq, -decide_eq_false_iff_not]
          have h4 := dec_t h4
          have go : okc (at_ b i) = true → ∃ m, m < n ∧ ∃ i', i' + m = b.size ∧ IntKind.i64.wrap (↑i + 1) = ↑i' ∧ ∀ j, j < i' → okc (at_ b j) = true := fun h => by
            refine ⟨n - 1, by omega, i + 1, by omega, ?_, fun j hj => ?_⟩
            · have := dec_f h2
              rw [wrap_i64] <;> omega
            · by_cases hji : j = i
              · subst hji; exact h
              · exact hok j (by omega)
          have no : okc (at_ b i) = false → mayName b = false := fun h => by
            simp only [mayName, Bool.and_eq_false_iff]
            right
            rw [List.all_eq_false]
            exact ⟨i, by simpa using h4, by simp [h]⟩
          have e1 : at_ b i = ((b.get! i).toNat : Int) := rfl
          grind [okc]
        · have h4 := dec_f h4
          have h2 := dec_f h2
          have h1 := size_pos (dec_f h1)
          have : i = b.size := by omega
          subst this
          simp only [mayName, at_, h3, Bool.and_eq_true, decide_eq_true_eq, Bool.true_eq]
          refine ⟨⟨⟨by omega, by omega⟩, trivial⟩, ?_⟩
          rw [List.all_eq_true]
          intro j hj
          exact hok j (by simpa using hj)
  · simp [mayName, dec_t h2]
    have := dec_t h2
    omega
  · have h1 := dec_t h1
    subst h1
    rfl

def okt (c : Int) : Bool := decide (32 ≤ c) && decide (c ≤ 126)
def mayText (b : ByteArray) : Bool := decide (b.size ≤ 60) && (List.range b.size).all fun j => okt (at_ b j)
theorem c_text (b : ByteArray) (hb : b.size ≤ 9223372036854775807) : Ret Try.prog 89 [D.str b] (.bool (mayText b)) := by
  refine Ret.of fun σ => ?_
  refine HCalls.start mixed false _ _ (fn := Try.f89) (by kernel_rfl) rfl (by kernel_rfl) rfl (by kernel_rfl) (by kernel_rfl) ?_
  simp (maxSteps := 2000000) +contextual [-decide_eq_true_eq, -decide_eq_false_iff_not]
  refine hloop_fix (fun n e => ∃ i : Nat, i + n = b.size ∧ e 0 = .str b ∧ e 5 = .int .i64 b.size ∧ e 6 = .int .i64 i ∧ ∀ j, j < i → okt (at_ b j) = true) b.size ?_ ?_
  · exact ⟨0, by simp⟩
  · rintro n e ⟨i, hi, e0, e5, e6, hok⟩
    simp (maxSteps := 2000000) +contextual [e0, e5, e6, -decide_eq_true_eq, -decide_eq_false_iff_not]
    have go : i < b.size → okt (at_ b i) = true → ∃ m, m < n ∧ ∃ i', i' + m = b.size ∧ IntKind.i64.wrap (↑i + 1) = ↑i' ∧ ∀ j, j < i' → okt (at_ b j) = true := fun h4 h => by
      refine ⟨n - 1, by omega, i + 1, by omega, ?_, fun j hj => ?_⟩
      · rw [wrap_i64] <;> omega
      · by_cases hji : j = i
        · subst hji; exact h
        · exact hok j (by omega)
    have no : i < b.size → okt (at_ b i) = false → mayText b = false := fun h4 h => by
      simp only [mayText, Bool.and_eq_false_iff]
      right
      rw [List.all_eq_false]
      exact ⟨i, by simpa using h4, by simp [h]⟩
    have yes : ¬ i < b.size → mayText b = decide (b.size ≤ 60) := fun h4 => by
      have : i = b.size := by omega
      subst this
      have : ((List.range b.size).all fun j => okt (at_ b j)) = true := by
        rw [List.all_eq_true]; intro j hj; exact hok j (by simpa using hj)
      simp [mayText, this]
    have e1 : at_ b i = ((b.get! i).toNat : Int) := rfl
    grind [okt]
end Go.HL
