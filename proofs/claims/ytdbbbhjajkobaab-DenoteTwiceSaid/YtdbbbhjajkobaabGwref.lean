/- What is wanted: the reference's answer. -/
import Derived.Test.YtdbbbhjajkobaabGback
import Derived.Test.YtdbbbhjajkobaabGvref
set_option linter.unusedVariables false
set_option linter.unusedSimpArgs false
set_option maxRecDepth 100000
set_option maxHeartbeats 1000000
namespace Go.HL
open Go.RowKit Go.Proofs

theorem c_rsameA (l m : List Attr) (t1 t2 : Tok) (hl : l.length ≤ 1048576) : Ret Try.prog 115 [.list (l.map attrD) t1, .list (m.map attrD) t2] (.bool (decide (l = m))) := by
  refine Ret.of fun σ => ?_
  refine HCalls.start mixed false _ _ (fn := Try.f115) (by kernel_rfl) rfl (by kernel_rfl) rfl (by kernel_rfl) (by kernel_rfl) ?_
  simp (maxSteps := 2000000) +contextual [-decide_eq_true_eq, -decide_eq_false_iff_not]
  refine ⟨fun h1 => ?_, fun h1 => ?_⟩
  · intro h; subst h; simp at h1
  · have hlm : l.length = m.length := by have := dec_t h1; omega
    refine hloop_fix (fun n e => ∃ i : Nat, i + n = l.length ∧ e 0 = .list (l.map attrD) t1 ∧ e 1 = .list (m.map attrD) t2 ∧ e 5 = .int .i64 i ∧ ∀ j, j < i → l[j]? = m[j]?) l.length ?_ ?_
    · exact ⟨0, by simp⟩
    · rintro n e ⟨i, hi, e0, e1, e5, hok⟩
      simp (maxSteps := 2000000) +contextual [e0, e1, e5, -decide_eq_true_eq, -decide_eq_false_iff_not]
      refine ⟨fun h4 => hdraw_intro (by kernel_rfl) ?_, fun h4 => ?_⟩
      · have h4 := dec_t h4
        simp (maxSteps := 2000000) +contextual [e0, e1, e5, attrD_length, attrD_def, -decide_eq_true_eq, -decide_eq_false_iff_not]
        refine ⟨h4, fun x hx => ⟨by omega, fun y hy => ⟨fun h5 h => ?_, fun e1 e2 e3 => ⟨n - 1, by omega, i + 1, by omega, by rw [wrap_i64] <;> omega, fun j hj => ?_⟩⟩⟩⟩
        · subst h
          rw [hx] at hy; injection hy with hy; subst hy
          simp at h5
        · by_cases hji : j = i
          · subst hji
            rw [hx, hy]
            have : x = y := by cases x; cases y; simp at e1 e2 e3; subst e1 e2 e3; rfl
            rw [this]
          · exact hok j (by omega)
      · have h4 := dec_f h4
        apply List.ext_getElem?
        intro j
        by_cases hj : j < i
        · exact hok j hj
        · rw [List.getElem?_eq_none (by omega), List.getElem?_eq_none (by omega)]
/-! Where an element ends. -/
def Nice (l : List Ins) : Prop := ∀ d : Int, (∀ j, d ≤ depA (l.take j) d) ∧ depA l d = d
theorem Nice.nil : Nice [] := fun d => ⟨fun j => by simp [depA], rfl⟩
theorem Nice.app {a b : List Ins} (ha : Nice a) (hb : Nice b) : Nice (a ++ b) := by
  intro d
  refine ⟨fun j => ?_, by rw [depA_append, (ha d).2, (hb d).2]⟩
  rw [List.take_append, depA_append]
  by_cases hj : j ≤ a.length
  · rw [show j - a.length = 0 from by omega]
    simp only [List.take_zero, depA]
    exact (ha d).1 j
  · rw [List.take_of_length_le (l := a) (by omega), (ha d).2]
    exact (hb d).1 _
theorem Nice.one {x : Ins} (h1 : ¬ x.op = 1) (h2 : ¬ x.op = 2) : Nice [x] := by
  intro d
  refine ⟨fun j => ?_, by simp [depA, h1, h2]⟩
  cases j with
  | zero => simp [depA]
  | succ j => simp [depA, h1, h2]
theorem Nice.all {l : List Ins} (h : ∀ x ∈ l, ¬ x.op = 1 ∧ ¬ x.op = 2) : Nice l := by
  induction l with
  | nil => exact Nice.nil
  | cons x l ih => exact (Nice.one (h x (by simp)).1 (h x (by simp)).2).app (ih fun y hy => h y (by simp [hy]))
theorem Nice.in {x c : Ins} {m : List Ins} (hx : x.op = 1) (hc : c.op = 2) (h : Nice m) : Nice (x :: (m ++ [c])) := by
  intro d
  have hstep : ∀ l, depA (x :: l) d = depA l (d + 1) := fun l => by simp [depA, hx]
  have hend : depA [c] (d + 1) = d := by simp [depA, hc]
  refine ⟨fun j => ?_, by rw [hstep, depA_append, (h (d + 1)).2, hend]⟩
  cases j with
  | zero => simp [depA]
  | succ j =>
    rw [List.take_succ_cons, hstep, List.take_append, depA_append]
    by_cases hj : j ≤ m.length
    · rw [show j - m.length = 0 from by omega]
      simp only [List.take_zero, depA]
      have := (h (d + 1)).1 j; omega
    · rw [List.take_of_length_le (l := m) (by omega), (h (d + 1)).2, show j - m.length = (j - m.length - 1) + 1 from by omega, List.take_succ_cons]
      simp [depA, hc]
theorem tell_ops {y : Ins} (h : isTell y.op = true) : ¬ y.op = 1 ∧ ¬ y.op = 2 := by simp [isTell] at h; omega
theorem blk_nice {l : List Ins} {ws : List Want} (h : Blk l ws) : Nice l := by
  induction h with
  | nil => exact Nice.nil
  | text x r ws hm h hr b ih => exact (Nice.one (by omega) (by omega)).app ih
  | node x r ws hm h hr b ih => exact (Nice.one (by omega) (by omega)).app ih
  | all x r ws hm h hr b ih => exact (Nice.one (by omega) (by omega)).app ih
  | void x ats r ws hm h ha hr b ih => exact (Nice.one (x := x) (by omega) (by omega)).app ((Nice.all fun y hy => tell_ops (ha y hy)).app ih)
  | elem x ats body c r ks ws hm h ha hb b1 hc hcm hr b2 ih1 ih2 =>
    have h1 : Nice (ats ++ body) := (Nice.all fun y hy => tell_ops (ha y hy)).app ih1
    have h2 := (Nice.in h hc h1).app ih2
    have e : x :: (ats ++ (body ++ c :: r)) = (x :: ((ats ++ body) ++ [c])) ++ r := by simp
    rw [e]; exact h2
/-- A wish while it is told: its lists may still be appended to. -/
structure WantT where
  w : Want
  ta : Tok
  tk : Tok
def wantT (p : WantT) : List D := [.int .i64 p.w.kind, .str p.w.tag, .str p.w.key, .str p.w.text, .list (p.w.attrs.map attrD) p.ta, .list (p.w.kids.map wantD) p.tk]
theorem wantT_length (p : WantT) : (wantT p).length = 6 := rfl
theorem wantT_wk (l : List WantT) (tok : Tok) : Wk (.list (l.map wantT) tok) (.list ((l.map WantT.w).map wantD) .ro) := by
  refine Wk.maps wantT wantD WantT.w l tok (fun a => by rw [wantD_length]; rfl) ?_
  rintro ⟨w, t1, t2⟩ j d d' h1 h2
  rw [wantD_eq] at h2
  match j with
  | 0 => simp [wantT] at h1 h2; subst h1 h2; exact .refl _
  | 1 => simp [wantT] at h1 h2; subst h1 h2; exact .refl _
  | 2 => simp [wantT] at h1 h2; subst h1 h2; exact .refl _
  | 3 => simp [wantT] at h1 h2; subst h1 h2; exact .refl _
  | 4 => simp [wantT] at h1 h2; subst h1 h2; exact .list _ _
  | 5 => simp [wantT] at h1 h2; subst h1 h2; exact .list _ _
  | n + 6 => simp [wantT] at h1
/- end of of -/
end Go.HL
