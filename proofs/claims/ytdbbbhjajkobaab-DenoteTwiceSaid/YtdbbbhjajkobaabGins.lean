/- Instructions: what the program's layer 11 does, and the reference's answers for layers 1 and 11. -/
import Derived.Test.YtdbbbhjajkobaabGattr
import Derived.Test.YtdbbbhjajkobaabH3
set_option linter.unusedVariables false
set_option linter.unusedSimpArgs false
set_option maxRecDepth 100000
set_option maxHeartbeats 1000000
namespace Go.HL
open Go.RowKit Go.Proofs

def bBr : ByteArray := ⟨#[98, 114]⟩
def bHr : ByteArray := ⟨#[104, 114]⟩
def bImg : ByteArray := ⟨#[105, 109, 103]⟩
def bInput : ByteArray := ⟨#[105, 110, 112, 117, 116]⟩
def bE : ByteArray := ⟨#[]⟩
def voidN (b : ByteArray) : Bool := decide (b = bBr) || decide (b = bHr) || decide (b = bImg) || decide (b = bInput)
theorem c_void (b : ByteArray) : Ret Try.prog 107 [D.str b] (.bool (voidN b)) := by
  refine Ret.of fun σ => ?_
  refine HCalls.start mixed false _ _ (fn := Try.f107) (by kernel_rfl) rfl (by kernel_rfl) rfl (by kernel_rfl) (by kernel_rfl) ?_
  simp (maxSteps := 2000000) +contextual [voidN, bBr, bHr, bImg, bInput, -decide_eq_true_eq, -decide_eq_false_iff_not]
  grind
theorem c_rvoid (b : ByteArray) : Ret Try.prog 76 [D.str b] (.bool (voidN b)) := by
  refine Ret.of fun σ => ?_
  refine HCalls.start mixed false _ _ (fn := Try.f76) (by kernel_rfl) rfl (by kernel_rfl) rfl (by kernel_rfl) (by kernel_rfl) ?_
  simp (maxSteps := 2000000) +contextual [voidN, bBr, bHr, bImg, bInput, -decide_eq_true_eq, -decide_eq_false_iff_not]
  grind
theorem c_rletter (c : Int) : Ret Try.prog 121 [D.int .u8 c] (.bool (letter c)) := by
  refine Ret.of fun σ => ?_
  refine HCalls.start mixed false _ _ (fn := Try.f121) (by kernel_rfl) rfl (by kernel_rfl) rfl (by kernel_rfl) (by kernel_rfl) ?_
  simp (maxSteps := 2000000) +contextual [letter, -decide_eq_true_eq, -decide_eq_false_iff_not]
theorem c_rname (b : ByteArray) : Ret Try.prog 74 [D.str b] (.bool (mayName b)) := by
  refine Ret.of fun σ => ?_
  refine HCalls.start mixed false _ _ (fn := Try.f74) (by kernel_rfl) rfl (by kernel_rfl) rfl (by kernel_rfl) (by kernel_rfl) ?_
  simp (maxSteps := 2000000) +contextual [-decide_eq_true_eq, -decide_eq_false_iff_not]
  by_cases h12 : 1 ≤ b.size ∧ b.size ≤ 12
  · have e1 : ¬ (b.size : Int) < 1 := by omega
    have e2 : ¬ (12 : Int) < b.size := by omega
    simp (maxSteps := 2000000) +contextual [e1, e2, -decide_eq_true_eq, -decide_eq_false_iff_not]
    let p : Nat → Bool := fun j => okc (at_ b j) && (decide (j ≠ 0) || letter (at_ b j))
    refine hloop_fix (fun n e => ∃ i : Nat, i + n = b.size ∧ e 0 = .str b ∧ e 3 = .int .i64 i ∧ Upto p i) b.size ?_ ?_
    · exact ⟨0, by simp [Upto.zero]⟩
    · rintro n e ⟨i, hi, e0, e3, hok⟩
      simp (maxSteps := 2000000) +contextual [e0, e3, -decide_eq_true_eq, -decide_eq_false_iff_not]
      refine ⟨fun h4 => ⟨by simpa using h4, c_rletter _ _ _ ?_⟩, fun h4 => ?_⟩
      · simp (maxSteps := 2000000) +contextual [e0, e3, -decide_eq_true_eq, -decide_eq_false_iff_not]
        have h4 := dec_t h4
        have go : p i = true → ∃ m, m < n ∧ ∃ i', i' + m = b.size ∧ IntKind.i64.wrap (↑i + 1) = ↑i' ∧ Upto p i' := fun h => next hi h4 (by omega) (hok.succ h)
        have no : okc (at_ b i) = false → mayName b = false := fun h => by
          simp only [mayName, Bool.and_eq_false_iff]
          right
          rw [List.all_eq_false]
          exact ⟨i, by simpa using h4, by simp [h]⟩
        have no2 : i = 0 → letter (at_ b i) = false → mayName b = false := fun h0 h => by
          subst h0
          simp [mayName, h]
        have e1 : at_ b i = ((b.get! i).toNat : Int) := rfl
        grind [okc]
      · have h4 := dec_f h4
        have : i = b.size := by omega
        subst this
        have h0 := hok 0 (by omega)
        have : ((List.range b.size).all fun j => okc (at_ b j)) = true := by
          rw [List.all_eq_true]; intro j hj
          have := hok j (by simpa using hj)
          simp only [p, Bool.and_eq_true] at this
          exact this.1
        simp only [p, Bool.and_eq_true] at h0
        have h0 : letter (at_ b 0) = true := by simpa using h0.2
        simp only [mayName, h0, this, Bool.and_true, Bool.and_eq_true, decide_eq_true_eq]
        omega
  · have : mayName b = false := by
      simp only [mayName]
      by_cases hz : b.size = 0
      · simp [hz]
      · have : ¬ b.size ≤ 12 := by omega
        simp [this]
    by_cases hz : (b.size : Int) < 1
    · simp (maxSteps := 2000000) +contextual [hz, this, -decide_eq_true_eq, -decide_eq_false_iff_not]
    · have e2 : (12 : Int) < b.size := by omega
      simp (maxSteps := 2000000) +contextual [hz, e2, this, -decide_eq_true_eq, -decide_eq_false_iff_not]
theorem c_rtext (b : ByteArray) (hb : b.size ≤ 9223372036854775807) : Ret Try.prog 73 [D.str b] (.bool (mayText b)) := by
  refine Ret.of fun σ => ?_
  refine HCalls.start mixed false _ _ (fn := Try.f73) (by kernel_rfl) rfl (by kernel_rfl) rfl (by kernel_rfl) (by kernel_rfl) ?_
  simp (maxSteps := 2000000) +contextual [-decide_eq_true_eq, -decide_eq_false_iff_not]
  refine hloop_fix (fun n e => ∃ i : Nat, i + n = b.size ∧ e 0 = .str b ∧ e 3 = .int .i64 i ∧ ∀ j, j < i → okt (at_ b j) = true) b.size ?_ ?_
  · exact ⟨0, by simp⟩
  · rintro n e ⟨i, hi, e0, e3, hok⟩
    simp (maxSteps := 2000000) +contextual [e0, e3, -decide_eq_true_eq, -decide_eq_false_iff_not]
    have go : i < b.size → okt (at_ b i) = true → ∃ m, m < n ∧ ∃ i', i' + m = b.size ∧ IntKind.i64.wrap (↑i + 1) = ↑i' ∧ ∀ j, j < i' → okt (at_ b j) = true := fun h4 h => by
      refine ⟨n - 1, by omega, i + 1, by omega, ?_, fun j hj => ?_⟩
      · rw [wrap_i64] <;> omega
      · by_cases hji : j = i
        · subst hji; exact h
        · exact hok j (by omega)
    have no : i < b.size → okt (at_ b i) = false → mayText b = false := fun h4 h => by
      simp only [mayText, Bool.and_eq_false_iff]
      right
      rw [List.all_eq_false]
      exact ⟨i, by simpa using h4, by simp [h]⟩
    have yes : ¬ i < b.size → mayText b = decide (b.size ≤ 60) := fun h4 => by
      have : i = b.size := by omega
      subst this
      have : ((List.range b.size).all fun j => okt (at_ b j)) = true := by
        rw [List.all_eq_true]; intro j hj; exact hok j (by simpa using hj)
      simp [mayText, this]
    have e1 : at_ b i = ((b.get! i).toNat : Int) := rfl
    grind [okt]

structure Ins where
  op : Int
  a : ByteArray
  b : ByteArray
  deriving DecidableEq
def insD (x : Ins) : List D := [.int .i64 x.op, .str x.a, .str x.b]
theorem insD_length (x : Ins) : (insD x).length = 3 := rfl
theorem insD_def (x : Ins) : insD x = [.int .i64 x.op, .str x.a, .str x.b] := rfl
@[simp] theorem insD_take (x : Ins) : List.take 3 (insD x) = insD x := rfl
def FitI (x : Ins) : Prop := x.a.size ≤ 9223372036854775807 ∧ x.b.size ≤ 9223372036854775807
def mayIns (x : Ins) : Bool :=
  if x.op = 1 then mayName x.a && !voidN x.a && mayText x.b
  else if x.op = 3 then voidN x.a && mayText x.b
  else if x.op = 4 then mayText x.a && decide (x.b = ⟨#[]⟩)
  else if x.op = 5 ∨ x.op = 6 then mayName x.a && mayText x.b
  else if x.op = 2 ∨ x.op = 7 ∨ x.op = 8 then decide (x.a = ⟨#[]⟩) && decide (x.b = ⟨#[]⟩)
  else false
theorem c_mayI (x : Ins) (hx : FitI x) : Ret Try.prog 154 [.agg (insD x)] (.bool (mayIns x)) := by
  refine Ret.of fun σ => ?_
  have h1 := hx.1
  have h2 := hx.2
  refine HCalls.start mixed false _ _ (fn := Try.f154) (by kernel_rfl) rfl (by kernel_rfl) rfl (by kernel_rfl) (by kernel_rfl) ?_
  repeat' (first | (simp (maxSteps := 2000000) +contextual [*, insD_def, -decide_eq_true_eq, -decide_eq_false_iff_not]) | (refine c_may _ _ _ ?_) | (refine c_void _ _ _ ?_) | (refine c_text _ h1 _ _ ?_) | (refine c_text _ h2 _ _ ?_) | (intro _) | (refine And.intro ?_ ?_))
  all_goals (simp_all [mayIns]; done)
theorem c_tells (o : Int) : Ret Try.prog 155 [.int .i64 o] (.bool (decide (o = 5) || decide (o = 6))) := by
  refine Ret.of fun σ => ?_
  refine HCalls.start mixed false _ _ (fn := Try.f155) (by kernel_rfl) rfl (by kernel_rfl) rfl (by kernel_rfl) (by kernel_rfl) ?_
  simp (maxSteps := 2000000) +contextual [-decide_eq_true_eq, -decide_eq_false_iff_not]
def texts (o : Int) : Nat := if o = 4 then 1 else if o = 1 ∨ o = 3 ∨ o = 5 ∨ o = 6 then 2 else 0
end Go.HL
