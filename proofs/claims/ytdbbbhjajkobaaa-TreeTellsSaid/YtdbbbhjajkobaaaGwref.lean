/- What is wanted: the reference's answer. -/
import Derived.Test.YtdbbbhjajkobaaaGback
import Derived.Test.YtdbbbhjajkobaaaGvref
set_option linter.unusedVariables false
set_option linter.unusedSimpArgs false
set_option maxRecDepth 100000
set_option maxHeartbeats 1000000
namespace Go.HL
open Go.RowKit Go.Proofs

theorem c_rsameA (l m : List Attr) (t1 t2 : Tok) (hl : l.length ≤ 1048576) : Ret Try.prog 82 [.list (l.map attrD) t1, .list (m.map attrD) t2] (.bool (decide (l = m))) := by
  refine Ret.of fun σ => ?_
  refine HCalls.start mixed false _ _ (fn := Try.f82) (by kernel_rfl) rfl (by kernel_rfl) rfl (by kernel_rfl) (by kernel_rfl) ?_
  simp (maxSteps := 2000000) +contextual [-decide_eq_true_eq, -decide_eq_false_iff_not]
  refine ⟨fun h1 => ?_, fun h1 => ?_⟩
  · intro h; subst h; simp at h1
  · have hlm : l.length = m.length := by have := dec_t h1; omega
    refine hloop_fix (fun n e => ∃ i : Nat, i + n = l.length ∧ e 0 = .list (l.map attrD) t1 ∧ e 1 = .list (m.map attrD) t2 ∧ e 5 = .int .i64 i ∧ ∀ j, j < i → l[j]? = m[j]?) l.length ?_ ?_
    · exact ⟨0, by simp⟩
    · rintro n e ⟨i, hi, e0, e1, e5, hok⟩
      simp (maxSteps := 2000000) +contextual [e0, e1, e5, -decide_eq_true_eq, -decide_eq_false_iff_not]
      refine ⟨fun h4 => hdraw_intro (by kernel_rfl) ?_, fun h4 => ?_⟩
      · have h4 := dec_t h4
        simp (maxSteps := 2000000) +contextual [e0, e1, e5, attrD_length, attrD_def, -decide_eq_true_eq, -decide_eq_false_iff_not]
        refine ⟨h4, fun x hx => ⟨by omega, fun y hy => ⟨fun h5 h => ?_, fun e1 e2 e3 => ⟨n - 1, by omega, i + 1, by omega, by rw [wrap_i64] <;> omega, fun j hj => ?_⟩⟩⟩⟩
        · subst h
          rw [hx] at hy; injection hy with hy; subst hy
          simp at h5
        · by_cases hji : j = i
          · subst hji
            rw [hx, hy]
            have : x = y := by cases x; cases y; simp at e1 e2 e3; subst e1 e2 e3; rfl
            rw [this]
          · exact hok j (by omega)
      · have h4 := dec_f h4
        apply List.ext_getElem?
        intro j
        by_cases hj : j < i
        · exact hok j hj
        · rw [List.getElem?_eq_none (by omega), List.getElem?_eq_none (by omega)]
theorem c_alike : ∀ (m : Nat) (A B : List Want) (t1 t2 : Tok), szL A < m → szL A ≤ 1048576 → Ret Try.prog 49 [.list (A.map wantD) t1, .list (B.map wantD) t2] (.bool (eqL A B)) := by
  intro m
  induction m with
  | zero => intro A B t1 t2 h; omega
  | succ m ih =>
    intro A B t1 t2 hm hsz
    have hal := sz_len A
    refine Ret.of fun σ => ?_
    refine HCalls.start mixed false _ _ (fn := Try.f49) (by kernel_rfl) rfl (by kernel_rfl) rfl (by kernel_rfl) (by kernel_rfl) ?_
    by_cases hlen : A.length = B.length
    · have hlen' : (A.length : Int) = B.length := by omega
      simp (maxSteps := 2000000) +contextual [hlen', -decide_eq_true_eq, -decide_eq_false_iff_not]
      refine hloop_fix (fun n e => ∃ i : Nat, i + n = A.length ∧ e 0 = .list (A.map wantD) t1 ∧ e 1 = .list (B.map wantD) t2 ∧ e 5 = .int .i64 i ∧ eqL A B = eqL (A.drop i) (B.drop i)) A.length ?_ ?_
      · exact ⟨0, by simp⟩
      · rintro n e ⟨i, hi, e0, e1, e5, heq⟩
        by_cases h4 : i < A.length
        · have h4b : i < B.length := by omega
          obtain ⟨a, ha, ha2⟩ : ∃ a, A[i]? = some a ∧ A[i] = a := ⟨_, List.getElem?_eq_getElem h4, rfl⟩
          obtain ⟨b, hb, hb2⟩ : ∃ b, B[i]? = some b ∧ B[i] = b := ⟨_, List.getElem?_eq_getElem h4b, rfl⟩
          rw [List.drop_eq_getElem_cons h4, List.drop_eq_getElem_cons h4b, ha2, hb2] at heq
          simp only [eqL, eqW_eq] at heq
          have hsa := sz_mem (List.mem_of_getElem? ha)
          have hsw := szW_eq a
          have hgo : ∀ v, eqL A B = (v && eqL (A.drop (i + 1)) (B.drop (i + 1))) → v = true → ∃ m, m < n ∧ ∃ i_1 : Nat, i_1 + m = A.length ∧ IntKind.i64.wrap (↑i + 1) = ↑i_1 ∧ eqL A B = eqL (A.drop i_1) (B.drop i_1) := fun v h1 h2 =>
            ⟨n - 1, by omega, i + 1, by omega, by rw [wrap_i64] <;> omega, by rw [h1, h2]; rfl⟩
          simp (maxSteps := 2000000) +contextual [e0, e1, e5, h4, -decide_eq_true_eq, -decide_eq_false_iff_not]
          refine hdraw_intro (by kernel_rfl) ?_
          simp (maxSteps := 2000000) +contextual [e0, e1, e5, h4, h4b, ha, ha2, hb, hb2, wantD_length, wantD_eq a, wantD_eq b, -decide_eq_true_eq, -decide_eq_false_iff_not]
          refine c_rsameA _ _ _ _ (by omega) _ _ ?_
          simp (maxSteps := 2000000) +contextual [e0, e1, e5, -decide_eq_true_eq, -decide_eq_false_iff_not]
          refine hdraw_intro (by kernel_rfl) ?_
          simp (maxSteps := 2000000) +contextual [e0, e1, e5, h4, h4b, ha, ha2, hb, hb2, wantD_length, wantD_eq a, wantD_eq b, -decide_eq_true_eq, -decide_eq_false_iff_not]
          refine ih a.kids b.kids .ro .ro (by omega) (by omega) _ _ ?_
          simp (maxSteps := 2000000) +contextual [e0, e1, e5, -decide_eq_true_eq, -decide_eq_false_iff_not]
          refine hdraw_intro (by kernel_rfl) ?_
          simp (maxSteps := 2000000) +contextual [e0, e1, e5, h4, h4b, ha, ha2, hb, hb2, wantD_length, wantD_eq a, wantD_eq b, -decide_eq_true_eq, -decide_eq_false_iff_not]
          cases h5 : eqL a.kids b.kids <;> rw [h5] at heq
          · simp only [Bool.and_false, Bool.false_and] at heq
            simp (maxSteps := 2000000) +contextual [heq, -decide_eq_true_eq, -decide_eq_false_iff_not]
          · simp only [Bool.and_true] at heq
            have hg1 := hgo _ heq
            cases c1 : decide (a.kind = b.kind) <;> cases c2 : decide (a.tag = b.tag) <;> cases c3 : decide (a.key = b.key) <;> cases c4 : decide (a.text = b.text) <;> cases c5 : decide (a.attrs = b.attrs) <;> rw [c1, c2, c3, c4, c5] at hg1 heq
            all_goals first
              | (have hz := hg1 rfl; exact ⟨fun _ => ⟨fun _ => ⟨fun _ => ⟨fun _ => ⟨fun _ => ⟨(fun h => by cases h), fun _ => hz⟩, (fun h => by cases h)⟩, (fun h => by cases h)⟩, (fun h => by cases h)⟩, (fun h => by cases h)⟩, (fun h => by cases h)⟩)
              | (have hz : eqL A B = false := heq; simp [hz])
        · rw [List.drop_eq_nil_of_le (by omega), List.drop_eq_nil_of_le (by omega)] at heq
          have heq : eqL A B = true := heq
          have h4' : ¬ i < B.length := by omega
          simp (maxSteps := 2000000) +contextual [e0, e1, e5, h4, h4', heq, -decide_eq_true_eq, -decide_eq_false_iff_not]
    · have hlen' : ¬ (A.length : Int) = B.length := by omega
      have : eqL A B = false := by
        cases h : eqL A B with
        | false => rfl
        | true => exact absurd (eqL_len h) hlen
      simp (maxSteps := 2000000) +contextual [hlen', this, -decide_eq_true_eq, -decide_eq_false_iff_not]

/-! Where an element ends. -/
def Nice (l : List Ins) : Prop := ∀ d : Int, (∀ j, d ≤ depA (l.take j) d) ∧ depA l d = d
theorem Nice.nil : Nice [] := fun d => ⟨fun j => by simp [depA], rfl⟩
theorem Nice.app {a b : List Ins} (ha : Nice a) (hb : Nice b) : Nice (a ++ b) := by
  intro d
  refine ⟨fun j => ?_, by rw [depA_append, (ha d).2, (hb d).2]⟩
  rw [List.take_append, depA_append]
  by_cases hj : j ≤ a.length
  · rw [show j - a.length = 0 from by omega]
    simp only [List.take_zero, depA]
    exact (ha d).1 j
  · rw [List.take_of_length_le (l := a) (by omega), (ha d).2]
    exact (hb d).1 _
theorem Nice.one {x : Ins} (h1 : ¬ x.op = 1) (h2 : ¬ x.op = 2) : Nice [x] := by
  intro d
  refine ⟨fun j => ?_, by simp [depA, h1, h2]⟩
  cases j with
  | zero => simp [depA]
  | succ j => simp [depA, h1, h2]
theorem Nice.all {l : List Ins} (h : ∀ x ∈ l, ¬ x.op = 1 ∧ ¬ x.op = 2) : Nice l := by
  induction l with
  | nil => exact Nice.nil
  | cons x l ih => exact (Nice.one (h x (by simp)).1 (h x (by simp)).2).app (ih fun y hy => h y (by simp [hy]))
theorem Nice.in {x c : Ins} {m : List Ins} (hx : x.op = 1) (hc : c.op = 2) (h : Nice m) : Nice (x :: (m ++ [c])) := by
  intro d
  have hstep : ∀ l, depA (x :: l) d = depA l (d + 1) := fun l => by simp [depA, hx]
  have hend : depA [c] (d + 1) = d := by simp [depA, hc]
  refine ⟨fun j => ?_, by rw [hstep, depA_append, (h (d + 1)).2, hend]⟩
  cases j with
  | zero => simp [depA]
  | succ j =>
    rw [List.take_succ_cons, hstep, List.take_append, depA_append]
    by_cases hj : j ≤ m.length
    · rw [show j - m.length = 0 from by omega]
      simp only [List.take_zero, depA]
      have := (h (d + 1)).1 j; omega
    · rw [List.take_of_length_le (l := m) (by omega), (h (d + 1)).2, show j - m.length = (j - m.length - 1) + 1 from by omega, List.take_succ_cons]
      simp [depA, hc]
theorem tell_ops {y : Ins} (h : isTell y.op = true) : ¬ y.op = 1 ∧ ¬ y.op = 2 := by simp [isTell] at h; omega
theorem blk_nice {l : List Ins} {ws : List Want} (h : Blk l ws) : Nice l := by
  induction h with
  | nil => exact Nice.nil
  | text x r ws hm h hr b ih => exact (Nice.one (by omega) (by omega)).app ih
  | node x r ws hm h hr b ih => exact (Nice.one (by omega) (by omega)).app ih
  | all x r ws hm h hr b ih => exact (Nice.one (by omega) (by omega)).app ih
  | void x ats r ws hm h ha hr b ih => exact (Nice.one (x := x) (by omega) (by omega)).app ((Nice.all fun y hy => tell_ops (ha y hy)).app ih)
  | elem x ats body c r ks ws hm h ha hb b1 hc hcm hr b2 ih1 ih2 =>
    have h1 : Nice (ats ++ body) := (Nice.all fun y hy => tell_ops (ha y hy)).app ih1
    have h2 := (Nice.in h hc h1).app ih2
    have e : x :: (ats ++ (body ++ c :: r)) = (x :: ((ats ++ body) ++ [c])) ++ r := by simp
    rw [e]; exact h2
/-- An element's end. -/
theorem c_endE (l pre m r : List Ins) (x c : Ins) (t0 : Tok) (hl : l.length ≤ 1048576) (he : l = pre ++ x :: (m ++ c :: r)) (hx : x.op = 1) (hc : c.op = 2) (hm : Nice m) :
    Ret Try.prog 85 [.list (l.map insD) t0, .int .i64 pre.length] (.int .i64 ((pre.length + 1 + m.length : Nat))) := by
  refine Ret.of fun σ => ?_
  have hlen : l.length = pre.length + 1 + m.length + 1 + r.length := by rw [he]; simp; omega
  have hget : l[pre.length]? = some x := by rw [he]; simp
  have hlt : pre.length < l.length := by omega
  have hget2 : ∀ h : pre.length < l.length, l[pre.length] = x := fun h => by have := List.getElem?_eq_getElem h; rw [hget] at this; injection this with this; exact this.symm
  refine HCalls.start mixed false _ _ (fn := Try.f85) (by kernel_rfl) rfl (by kernel_rfl) rfl (by kernel_rfl) (by kernel_rfl) ?_
  simp (maxSteps := 2000000) +contextual [hget, hlt, hget2, insD_length, insD_def, hx, -decide_eq_true_eq, -decide_eq_false_iff_not]
  refine hloop_fix (fun n e => ∃ (j : Nat) (dd : Int) (p : Nat), j + n = m.length + 2 ∧ j ≤ m.length + 1 ∧ e 0 = .list (l.map insD) t0 ∧ e 5 = .int .i64 dd ∧ e 6 = .int .i64 p ∧ Sm p (pre.length + j) ∧ Sm dd (depA ((x :: m).take j) 0)) (m.length + 2) ?_ ?_
  · exact ⟨0, 0, pre.length, by omega, by omega, by simp, by simp, by simp, rfl, rfl⟩
  · rintro n e ⟨j, dd, p, hj, hjm, e0, e5, e6, hp, hdd⟩
    have hp : p = pre.length + j := hp
    have hdd : dd = depA ((x :: m).take j) 0 := hdd
    obtain ⟨y, hy⟩ : ∃ y, (x :: (m ++ c :: r))[j]? = some y := ⟨_, List.getElem?_eq_getElem (by simp; omega)⟩
    have hy1 : l[p]? = some y := by rw [hp, he, List.getElem?_append_right (by omega), Nat.add_sub_cancel_left]; exact hy
    have hylt : p < l.length := by omega
    have hy2 : ∀ h : p < l.length, l[p] = y := fun h => by have := List.getElem?_eq_getElem h; rw [hy1] at this; injection this with this; exact this.symm
    have hdr := depA_le ((x :: m).take j) 0
    have htl : ((x :: m).take j).length ≤ j := by simp; omega
    have hw1 : IntKind.i64.wrap (dd + 1) = dd + 1 := by rw [wrap_i64] <;> omega
    have hw2 : IntKind.i64.wrap (dd - 1) = dd - 1 := by rw [wrap_i64] <;> omega
    by_cases hlast : j = m.length + 1
    · have hyc : y = c := by
        rw [hlast, List.getElem?_cons_succ, List.getElem?_append_right (Nat.le_refl _), Nat.sub_self] at hy
        injection hy with hy; exact hy.symm
      have hd1 : dd = 1 := by
        rw [hdd, List.take_of_length_le (by simp; omega)]
        simp only [depA, hx, if_true]
        have := (hm 1).2
        simpa using this
      rw [hyc] at hy1 hy2
      have hw3 : IntKind.i64.wrap 0 = 0 := by decide
      rw [hd1] at e5
      simp (maxSteps := 2000000) +contextual [e0, e5, e6, insD_length, insD_def, hylt, hy1, hy2, hc, hw3, -decide_eq_true_eq, -decide_eq_false_iff_not]
      omega
    · have hjm' : j ≤ m.length := by omega
      have hyt : (x :: m)[j]? = some y := by
        have : x :: (m ++ c :: r) = (x :: m) ++ c :: r := rfl
        rw [this, List.getElem?_append_left (by simp; omega)] at hy; exact hy
      have hnext : depA ((x :: m).take (j + 1)) 0 = if y.op = 1 then dd + 1 else if y.op = 2 then dd - 1 else dd := by
        rw [take_next hyt, depA_append, ← hdd]; rfl
      have hpos : 1 ≤ depA ((x :: m).take (j + 1)) 0 := by
        rw [List.take_succ_cons]
        simp only [depA, hx, if_true]
        have := (hm 1).1 j
        simpa using this
      have fin : ∀ v : Int, v = depA ((x :: m).take (j + 1)) 0 → ∃ m_1, m_1 < n ∧ ∃ j_1, j_1 + m_1 = m.length + 2 ∧ j_1 ≤ m.length + 1 ∧ ∃ p_1 : Nat, IntKind.i64.wrap (↑p + 1) = ↑p_1 ∧ Sm p_1 (pre.length + j_1) ∧ Sm v (depA ((x :: m).take j_1) 0) := fun v hv =>
        ⟨n - 1, by omega, j + 1, by omega, by omega, p + 1, by rw [wrap_i64] <;> omega, by show p + 1 = _; omega, hv⟩
      by_cases h1 : y.op = 1
      · rw [if_pos h1] at hnext
        have hz : ¬ dd + 1 = 0 := by omega
        simp (maxSteps := 2000000) +contextual [e0, e5, e6, insD_length, insD_def, hylt, hy1, hy2, h1, hw1, hz, -decide_eq_true_eq, -decide_eq_false_iff_not]
        exact fin _ hnext.symm
      · by_cases h2 : y.op = 2
        · rw [if_neg h1, if_pos h2] at hnext
          have hz : ¬ dd - 1 = 0 := by omega
          simp (maxSteps := 2000000) +contextual [e0, e5, e6, insD_length, insD_def, hylt, hy1, hy2, h2, hw2, hz, -decide_eq_true_eq, -decide_eq_false_iff_not]
          exact fin _ hnext.symm
        · rw [if_neg h1, if_neg h2] at hnext
          have hz : ¬ dd = 0 := by omega
          simp (maxSteps := 2000000) +contextual [e0, e5, e6, insD_length, insD_def, hylt, hy1, hy2, h1, h2, hz, -decide_eq_true_eq, -decide_eq_false_iff_not]
          exact fin _ hnext.symm

theorem c_endV (l pre ats r : List Ins) (x : Ins) (t0 : Tok) (hl : l.length ≤ 1048576) (he : l = pre ++ x :: (ats ++ r)) (hx : x.op = 3) (ha : ∀ y ∈ ats, isTell y.op = true) (hr : noTell r) :
    Ret Try.prog 85 [.list (l.map insD) t0, .int .i64 pre.length] (.int .i64 ((pre.length + ats.length : Nat))) := by
  refine Ret.of fun σ => ?_
  have hlen : l.length = pre.length + 1 + ats.length + r.length := by rw [he]; simp; omega
  have hget : l[pre.length]? = some x := by rw [he]; simp
  have hlt : pre.length < l.length := by omega
  have hget2 : ∀ h : pre.length < l.length, l[pre.length] = x := fun h => by have := List.getElem?_eq_getElem h; rw [hget] at this; injection this with this; exact this.symm
  refine HCalls.start mixed false _ _ (fn := Try.f85) (by kernel_rfl) rfl (by kernel_rfl) rfl (by kernel_rfl) (by kernel_rfl) ?_
  simp (maxSteps := 2000000) +contextual [hget, hlt, hget2, insD_length, insD_def, hx, -decide_eq_true_eq, -decide_eq_false_iff_not]
  refine hloop_fix (fun n e => ∃ (j p : Nat), j + n = ats.length ∧ e 0 = .list (l.map insD) t0 ∧ e 1 = .int .i64 p ∧ Sm p (pre.length + j)) ats.length ?_ ?_
  · exact ⟨0, pre.length, by omega, by simp, by simp, rfl⟩
  · rintro n e ⟨j, p, hj, e0, e1, hp⟩
    have hp : p = pre.length + j := hp
    have hw : IntKind.i64.wrap ((p : Int) + 1) = ((p + 1 : Nat) : Int) := by rw [wrap_i64] <;> omega
    have hgl : l[p + 1]? = (ats ++ r)[j]? := by
      rw [he, hp, List.getElem?_append_right (by omega)]
      rw [show pre.length + j + 1 - pre.length = j + 1 from by omega, List.getElem?_cons_succ]
    by_cases h4 : p + 1 < l.length
    · obtain ⟨y, hy, hy2⟩ : ∃ y, l[p + 1]? = some y ∧ l[p + 1] = y := ⟨_, List.getElem?_eq_getElem h4, rfl⟩
      rw [hgl] at hy
      have hw' : IntKind.i64.wrap ((p : Int) + 1) = (p : Int) + 1 := by rw [hw]; simp
      have h4i : (p : Int) + 1 < l.length := by omega
      have hyl : l[p + 1]? = some y := by rw [hgl]; exact hy
      simp (maxSteps := 2000000) +contextual [e0, e1, hw', h4, h4i, hyl, hy2, insD_length, insD_def, -decide_eq_true_eq, -decide_eq_false_iff_not]
      refine ⟨by omega, c_rtells _ _ _ ?_⟩
      by_cases hjl : j < ats.length
      · have ht : isTell y.op = true := by
          rw [List.getElem?_append_left hjl] at hy
          exact ha y (List.mem_of_getElem? hy)
        rw [show (decide (y.op = 5) || decide (y.op = 6)) = true from ht]
        simp (maxSteps := 2000000) +contextual [e0, e1, hw', -decide_eq_true_eq, -decide_eq_false_iff_not]
        exact ⟨n - 1, by omega, j + 1, by omega, p + 1, by simp, by show p + 1 = _; omega⟩
      · have ht : isTell y.op = false := by
          rw [List.getElem?_append_right (by omega)] at hy
          have hj0 : j - ats.length = 0 := by omega
          rw [hj0] at hy
          cases r with
          | nil => simp at hy
          | cons z q => simp at hy; subst hy; exact hr z q rfl
        rw [show (decide (y.op = 5) || decide (y.op = 6)) = false from ht]
        simp (maxSteps := 2000000) +contextual [e0, e1, -decide_eq_true_eq, -decide_eq_false_iff_not]
        omega
    · have hw' : IntKind.i64.wrap ((p : Int) + 1) = (p : Int) + 1 := by rw [hw]; simp
      have h4i : ¬ (p : Int) + 1 < l.length := by omega
      simp (maxSteps := 2000000) +contextual [e0, e1, hw', h4, h4i, -decide_eq_true_eq, -decide_eq_false_iff_not]
      omega
/-- A wish while it is told: its lists may still be appended to. -/
structure WantT where
  w : Want
  ta : Tok
  tk : Tok
def wantT (p : WantT) : List D := [.int .i64 p.w.kind, .str p.w.tag, .str p.w.key, .str p.w.text, .list (p.w.attrs.map attrD) p.ta, .list (p.w.kids.map wantD) p.tk]
theorem wantT_length (p : WantT) : (wantT p).length = 6 := rfl
theorem wantT_wk (l : List WantT) (tok : Tok) : Wk (.list (l.map wantT) tok) (.list ((l.map WantT.w).map wantD) .ro) := by
  refine Wk.maps wantT wantD WantT.w l tok (fun a => by rw [wantD_length]; rfl) ?_
  rintro ⟨w, t1, t2⟩ j d d' h1 h2
  rw [wantD_eq] at h2
  match j with
  | 0 => simp [wantT] at h1 h2; subst h1 h2; exact .refl _
  | 1 => simp [wantT] at h1 h2; subst h1 h2; exact .refl _
  | 2 => simp [wantT] at h1 h2; subst h1 h2; exact .refl _
  | 3 => simp [wantT] at h1 h2; subst h1 h2; exact .refl _
  | 4 => simp [wantT] at h1 h2; subst h1 h2; exact .list _ _
  | 5 => simp [wantT] at h1 h2; subst h1 h2; exact .list _ _
  | n + 6 => simp [wantT] at h1
/-- The reference: what is wanted. -/
theorem c_rof_of (l : List Ins) (ws : List Want) (t0 : Tok) (hb : Blk l ws) (hl : FitL l) (sub : ∀ (b : List Ins) (ks : List Want) (t : Tok), Blk b ks → b.length < l.length → FitL b → Ret Try.prog 48 [.list (b.map insD) t] (.list (ks.map wantD) .ro)) :
    Ret Try.prog 48 [.list (l.map insD) t0] (.list (ws.map wantD) .ro) := by
  refine Ret.weak fun σ => ?_
  have hl1 := hl.1
  refine HCalls.start mixed false _ _ (fn := Try.f48) (by kernel_rfl) rfl (by kernel_rfl) rfl (by kernel_rfl) (by kernel_rfl) ?_
  simp (maxSteps := 2000000) +contextual [-decide_eq_true_eq, -decide_eq_false_iff_not]
  refine hloop_intro (fun n e s => ∃ (p : Nat) (pre rest : List Ins) (tok : Tok) (out : List WantT) (wr : List Want) (s3 : Store), rest.length ≤ n ∧ out.length ≤ p ∧ Sm l (pre ++ rest) ∧ Sm p pre.length ∧ Blk rest wr ∧ Sm ws (out.map WantT.w ++ wr) ∧ e 0 = .list (l.map insD) t0 ∧ e 3 = .list (out.map wantT) tok ∧ e 4 = .int .i64 p ∧ Gr 6 σ (out.map wantT) tok s3 ∧ SLe s3 s) l.length ?_ ?_
  · refine ⟨0, [], l, .nil, [], ws, σ, by simp, by simp, rfl, rfl, hb, rfl, ?_⟩
    simp (maxSteps := 2000000) +contextual [-decide_eq_true_eq, -decide_eq_false_iff_not]
    exact .nil
  · rintro n e s ⟨p, pre, rest, tok, out, wr, s3, hn, hop, hpr, hp, hbr, hws, e0, e3, e4, hg, hs3⟩
    have hpr : l = pre ++ rest := hpr
    have hp : p = pre.length := hp
    have hws : ws = out.map WantT.w ++ wr := hws
    have hlen : l.length = p + rest.length := by rw [hpr, hp]; simp
    have hget : l[p]? = rest[0]? := by rw [hpr, hp, List.getElem?_append_right (Nat.le_refl _), Nat.sub_self]
    -- the step behind one
    have fin : ∀ (q : Nat) (w : WantT) (taken r : List Ins) (wr' : List Want) (out' : List WantT) (tok' : Tok) (s' s4 : Store), rest = taken ++ r → 0 < taken.length → (q : Int) = ((p + taken.length - 1 : Nat) : Int) → Blk r wr' → wr = w.w :: wr' → out' = out ++ [w] → SLe s4 s' → Gr 6 σ (out'.map wantT) tok' s4 →
        ∃ m, m < n ∧ ∃ s'', SLe s'' s' ∧ ∃ (p_1 : Nat) (pre_1 rest_1 : List Ins), rest_1.length ≤ m ∧ ∃ (tok_1 : Tok) (out_1 : List WantT), out_1.length ≤ p_1 ∧ Sm l (pre_1 ++ rest_1) ∧ Sm p_1 pre_1.length ∧ ∃ wr_1, Blk rest_1 wr_1 ∧ Sm ws (out_1.map WantT.w ++ wr_1) ∧ (out'.map wantT = out_1.map wantT ∧ tok' = tok_1) ∧ IntKind.i64.wrap ((q : Int) + 1) = p_1 ∧ ∃ s5, Gr 6 σ (out_1.map wantT) tok_1 s5 ∧ SLe s5 s'' := by
      intro q w taken r wr' out' tok' s' s4 h1 h2 h3 h4 h5 h6 h7 h8
      have hrl : rest.length = taken.length + r.length := by rw [h1]; simp
      refine ⟨n - 1, by omega, s', SLe.refl _, p + taken.length, pre ++ taken, r, by omega, tok', out', by rw [h6]; simp; omega, ?_, ?_, wr', h4, ?_, ⟨rfl, rfl⟩, by rw [wrap_i64] <;> omega, s4, h8, h7⟩
      · show l = _; rw [hpr, h1]; simp
      · show p + taken.length = _; simp [hp]
      · show ws = _; rw [hws, h5, h6]; simp
    cases hbr with
    | nil =>
      have hnlt : ¬ p < l.length := by rw [hlen]; simp
      simp (maxSteps := 2000000) +contextual [e0, e3, e4, hnlt, -decide_eq_true_eq, -decide_eq_false_iff_not]
      rw [List.append_nil] at hws
      exact ⟨hg.le.trans hs3, by rw [hws]; exact wantT_wk out tok⟩
    | text x r wr' hm h hr b =>
      have hgx : l[p]? = some x := hget
      have hlt : p < l.length := by rw [hlen]; simp
      have hgx2 : ∀ h : p < l.length, l[p] = x := fun h => by have := List.getElem?_eq_getElem h; rw [hgx] at this; injection this with this; exact this.symm
      simp (maxSteps := 2000000) +contextual [e0, e3, e4, hlt, hgx, hgx2, insD_length, insD_def, h, wantT_length, -decide_eq_true_eq, -decide_eq_false_iff_not]
      refine hg.appendT hs3 [⟨.mk 2 ⟨#[]⟩ ⟨#[]⟩ x.a [] [], .nil, .nil⟩] ?_ ?_ ?_ ?_ ?_
      · rfl
      · rfl
      · (try simp); omega
      · (try simp); omega
      intro out1 tok1 s1 s2 g1 g2 g3 g4
      simp (maxSteps := 2000000) +contextual [e0, e3, e4, -decide_eq_true_eq, -decide_eq_false_iff_not]
      exact fin p _ [x] r wr' out1 tok1 s1 s2 rfl (by simp) (by simp) b rfl g1 g2 g4
    | node x r wr' hm h hr b =>
      have hgx : l[p]? = some x := hget
      have hlt : p < l.length := by rw [hlen]; simp
      have hgx2 : ∀ h : p < l.length, l[p] = x := fun h => by have := List.getElem?_eq_getElem h; rw [hgx] at this; injection this with this; exact this.symm
      simp (maxSteps := 2000000) +contextual [e0, e3, e4, hlt, hgx, hgx2, insD_length, insD_def, h, wantT_length, -decide_eq_true_eq, -decide_eq_false_iff_not]
      refine hg.appendT hs3 [⟨.mk 3 ⟨#[]⟩ ⟨#[]⟩ ⟨#[]⟩ [] [], .nil, .nil⟩] ?_ ?_ ?_ ?_ ?_
      · rfl
      · rfl
      · (try simp); omega
      · (try simp); omega
      intro out1 tok1 s1 s2 g1 g2 g3 g4
      simp (maxSteps := 2000000) +contextual [e0, e3, e4, -decide_eq_true_eq, -decide_eq_false_iff_not]
      exact fin p _ [x] r wr' out1 tok1 s1 s2 rfl (by simp) (by simp) b rfl g1 g2 g4
    | all x r wr' hm h hr b =>
      have hgx : l[p]? = some x := hget
      have hlt : p < l.length := by rw [hlen]; simp
      have hgx2 : ∀ h : p < l.length, l[p] = x := fun h => by have := List.getElem?_eq_getElem h; rw [hgx] at this; injection this with this; exact this.symm
      simp (maxSteps := 2000000) +contextual [e0, e3, e4, hlt, hgx, hgx2, insD_length, insD_def, h, wantT_length, -decide_eq_true_eq, -decide_eq_false_iff_not]
      refine hg.appendT hs3 [⟨.mk 4 ⟨#[]⟩ ⟨#[]⟩ ⟨#[]⟩ [] [], .nil, .nil⟩] ?_ ?_ ?_ ?_ ?_
      · rfl
      · rfl
      · (try simp); omega
      · (try simp); omega
      intro out1 tok1 s1 s2 g1 g2 g3 g4
      simp (maxSteps := 2000000) +contextual [e0, e3, e4, -decide_eq_true_eq, -decide_eq_false_iff_not]
      exact fin p _ [x] r wr' out1 tok1 s1 s2 rfl (by simp) (by simp) b rfl g1 g2 g4
    | void x ats r wr' hm h ha hr b =>
      obtain ⟨tl, htl⟩ : ∃ tl, tl = r := ⟨r, rfl⟩
      have hpr' : l = pre ++ x :: (ats ++ tl) := by rw [htl]; exact hpr
      have hnt : noTell tl := by rw [htl]; exact hr
      have hgx : l[p]? = some x := hget
      have hlt : p < l.length := by rw [hlen]; simp
      have hgx2 : ∀ h : p < l.length, l[p] = x := fun h => by have := List.getElem?_eq_getElem h; rw [hgx] at this; injection this with this; exact this.symm
      have hltl : l.length = p + 1 + ats.length + tl.length := by rw [hlen]; simp [htl]; omega
      have hgj : ∀ j, l[p + 1 + j]? = (ats ++ tl)[j]? := fun j => by
        rw [hpr', hp, List.getElem?_append_right (by omega)]
        rw [show pre.length + 1 + j - pre.length = j + 1 from by omega, List.getElem?_cons_succ]
      have hw1 : IntKind.i64.wrap ((p : Int) + 1) = ((p + 1 : Nat) : Int) := by rw [wrap_i64] <;> omega
      simp (maxSteps := 2000000) +contextual [e0, e3, e4, hlt, hgx, hgx2, insD_length, insD_def, h, wantT_length, -decide_eq_true_eq, -decide_eq_false_iff_not]
      refine hdraw_intro (by kernel_rfl) ?_
      simp (maxSteps := 2000000) +contextual [e0, e3, e4, hlt, hgx, hgx2, insD_length, insD_def, h, wantT_length, -decide_eq_true_eq, -decide_eq_false_iff_not]
      intro b5 hb5
      refine hloop_intro (fun n' e' s' => ∃ (q : Nat) (done todo : List Ins) (at1 : List Attr) (tk : Tok) (s4 : Store), todo.length ≤ n' ∧ Sm ats (done ++ todo) ∧ Sm (done.map insA) at1 ∧ Sm q (p + 1 + done.length) ∧ e' 0 = .list (l.map insD) t0 ∧ e' 3 = .list (out.map wantT) tok ∧ e' 4 = .int .i64 p ∧ e' 5 = .ptr b5 0 ∧ e' 6 = .int .i64 q ∧
        s' b5 = some (.cells [.int .i64 1, .str x.a, .str x.b, .str ⟨#[]⟩, .list (at1.map attrD) tk, .list [] .nil]) ∧ Gr 3 s (at1.map attrD) tk s4 ∧ SLe s4 s') ats.length ?_ ?_
      · refine ⟨p + 1, [], ats, [], .nil, s, Nat.le_refl _, rfl, rfl, rfl, ?_⟩
        simp (maxSteps := 2000000) +contextual [e0, e3, e4, hw1, -decide_eq_true_eq, -decide_eq_false_iff_not]
        exact ⟨.nil, by (intro xx oo hh; simp only [Store.set] at hh ⊢; grind)⟩
      · rintro n' e' s' ⟨q, done, todo, at1, tk, s4, hn', hats, hat, hq, f0, f3, f4, f5, f6, hs5, hga, hs4⟩
        have hats : ats = done ++ todo := hats
        have hat : done.map insA = at1 := hat
        have hq : q = p + 1 + done.length := hq
        have hal : at1.length = done.length := by rw [← hat]; simp
        have hatl : ats.length = done.length + todo.length := by rw [hats]; simp
        have hgq : l[q]? = (todo ++ tl)[0]? := by
          rw [hq, hgj, hats, List.append_assoc, List.getElem?_append_right (Nat.le_refl _), Nat.sub_self]
        cases todo with
        | cons y td =>
          have hy : isTell y.op = true := ha y (by rw [hats]; simp)
          have hgy : l[q]? = some y := hgq
          have hqlt : q < l.length := by simp only [List.length_cons] at hatl; omega
          have hgy2 : ∀ h : q < l.length, l[q] = y := fun h => by have := List.getElem?_eq_getElem h; rw [hgy] at this; injection this with this; exact this.symm
          simp (maxSteps := 2000000) +contextual [f0, f3, f4, f5, f6, hqlt, hgy, hgy2, hs5, insD_length, insD_def, -decide_eq_true_eq, -decide_eq_false_iff_not]
          refine c_rtells _ _ _ ?_
          rw [show (decide (y.op = 5) || decide (y.op = 6)) = true from hy]
          simp (maxSteps := 2000000) +contextual [f0, f3, f4, f5, f6, hqlt, hgy, hgy2, hs5, insD_length, insD_def, -decide_eq_true_eq, -decide_eq_false_iff_not]
          refine hdraw_cut 20 _ (SLe.refl _) (by kernel_rfl) (by kernel_rfl) ?_
          simp (maxSteps := 2000000) +contextual [f0, f3, f4, f5, f6, hqlt, hgy, hgy2, hs5, insD_length, insD_def, attrD_length, -decide_eq_true_eq, -decide_eq_false_iff_not]
          refine ⟨fun _ => none, (fun _ _ h => by cases h), ?_⟩
          refine hga.appendT hs4 [insA y] ?_ ?_ ?_ ?_ ?_
          · rfl
          · rfl
          · (try simp); omega
          · (try simp); omega
          intro ats1 tok1 s1 s2 ho1 hs1 hk1 hg1
          have k5 := hk1.cells hs5
          have hoff := hg1.off hs1 hb5 k5
          have hw2 : IntKind.i64.wrap ((q : Int) + 1) = ((q + 1 : Nat) : Int) := by rw [wrap_i64] <;> omega
          simp (maxSteps := 2000000) +contextual [f0, f3, f4, f5, f6, k5, hw2, -decide_eq_true_eq, -decide_eq_false_iff_not]
          refine ⟨by (intro xx oo hh; simp only [Store.set] at hh ⊢; grind), by (intro xx oo hh; simp only [Store.set] at hh ⊢; grind), n' - 1, by simp only [List.length_cons] at hn'; omega, _, SLe.refl _, q + 1, done ++ [y], td, by simp only [List.length_cons] at hn'; omega, ?_, ats1, ?_, ?_, by omega, tok1, by rw [Store.set_same], s2, hg1, hs1.put hoff _⟩
          · show ats = done ++ [y] ++ td; rw [hats]; simp
          · show (done ++ [y]).map insA = ats1; rw [ho1, ← hat]; simp
          · show q + 1 = p + 1 + (done ++ [y]).length; simp; omega
        | nil =>
          cases htl0 : tl with
          | nil =>
            have hqn : ¬ q < l.length := by rw [htl0] at hltl; simp only [List.length_nil] at hltl hatl; omega
            simp (maxSteps := 2000000) +contextual [f0, f3, f4, f5, f6, hqn, hs5, insD_length, insD_def, -decide_eq_true_eq, -decide_eq_false_iff_not]
            have hat2 : at1 = ats.map insA := by rw [← hat, hats]; simp
            have hce := c_endV l pre ats r x t0 hl1 hpr h ha hr
            rw [← hp] at hce
            refine hce _ _ ?_
            simp (maxSteps := 2000000) +contextual [f0, f3, f4, f5, f6, hlt, hgx, hgx2, h, insD_length, insD_def, hs5, wantT_length, -decide_eq_true_eq, -decide_eq_false_iff_not]
            refine hg.appendT (hs3.trans (hga.le.trans hs4)) [⟨.mk 1 x.a x.b ⟨#[]⟩ at1 [], tk, .nil⟩] ?_ ?_ ?_ ?_ ?_
            · rfl
            · rfl
            · (try simp); omega
            · (try simp); omega
            intro out1 tok1 s1 s2 g1 g2 g3 g4
            simp (maxSteps := 2000000) +contextual [f0, f3, f4, f5, f6, -decide_eq_true_eq, -decide_eq_false_iff_not]
            exact fin (p + ats.length) _ (x :: ats) r wr' out1 tok1 s1 s2 rfl (by simp) (by simp) b (by rw [hat2]) g1 g2 g4
          | cons z zs =>
            have hz : isTell z.op = false := hnt z zs htl0
            have hgz : l[q]? = some z := by rw [hgq, htl0]; rfl
            have hqlt : q < l.length := by have := (List.getElem?_eq_some_iff.1 hgz).1; exact this
            have hgz2 : ∀ h : q < l.length, l[q] = z := fun h => by have := List.getElem?_eq_getElem h; rw [hgz] at this; injection this with this; exact this.symm
            simp (maxSteps := 2000000) +contextual [f0, f3, f4, f5, f6, hqlt, hgz, hgz2, hs5, insD_length, insD_def, -decide_eq_true_eq, -decide_eq_false_iff_not]
            refine c_rtells _ _ _ ?_
            rw [show (decide (z.op = 5) || decide (z.op = 6)) = false from hz]
            simp (maxSteps := 2000000) +contextual [f0, f3, f4, f5, f6, hqlt, hgz, hgz2, hs5, insD_length, insD_def, -decide_eq_true_eq, -decide_eq_false_iff_not]
            have hat2 : at1 = ats.map insA := by rw [← hat, hats]; simp
            have hce := c_endV l pre ats r x t0 hl1 hpr h ha hr
            rw [← hp] at hce
            refine hce _ _ ?_
            simp (maxSteps := 2000000) +contextual [f0, f3, f4, f5, f6, hlt, hgx, hgx2, h, insD_length, insD_def, hs5, wantT_length, -decide_eq_true_eq, -decide_eq_false_iff_not]
            refine hg.appendT (hs3.trans (hga.le.trans hs4)) [⟨.mk 1 x.a x.b ⟨#[]⟩ at1 [], tk, .nil⟩] ?_ ?_ ?_ ?_ ?_
            · rfl
            · rfl
            · (try simp); omega
            · (try simp); omega
            intro out1 tok1 s1 s2 g1 g2 g3 g4
            simp (maxSteps := 2000000) +contextual [f0, f3, f4, f5, f6, -decide_eq_true_eq, -decide_eq_false_iff_not]
            exact fin (p + ats.length) _ (x :: ats) r wr' out1 tok1 s1 s2 rfl (by simp) (by simp) b (by rw [hat2]) g1 g2 g4
    | elem x ats body c r ks wr' hm h ha hnb b1 hc hcm hr b2 =>
      obtain ⟨tl, htl⟩ : ∃ tl, tl = body ++ c :: r := ⟨_, rfl⟩
      have hpr' : l = pre ++ x :: (ats ++ tl) := by rw [htl]; exact hpr
      have hnt : noTell tl := by
        intro z zs hz
        rw [htl] at hz
        cases body with
        | nil => simp at hz; rw [← hz.1]; simp [isTell, hc]
        | cons w0 w1 => simp at hz; rw [← hz.1]; exact hnb w0 w1 rfl
      have hgx : l[p]? = some x := hget
      have hlt : p < l.length := by rw [hlen]; simp
      have hgx2 : ∀ h : p < l.length, l[p] = x := fun h => by have := List.getElem?_eq_getElem h; rw [hgx] at this; injection this with this; exact this.symm
      have hltl : l.length = p + 1 + ats.length + tl.length := by rw [hlen]; simp [htl]; omega
      have hgj : ∀ j, l[p + 1 + j]? = (ats ++ tl)[j]? := fun j => by
        rw [hpr', hp, List.getElem?_append_right (by omega)]
        rw [show pre.length + 1 + j - pre.length = j + 1 from by omega, List.getElem?_cons_succ]
      have hw1 : IntKind.i64.wrap ((p : Int) + 1) = ((p + 1 : Nat) : Int) := by rw [wrap_i64] <;> omega
      simp (maxSteps := 2000000) +contextual [e0, e3, e4, hlt, hgx, hgx2, insD_length, insD_def, h, wantT_length, -decide_eq_true_eq, -decide_eq_false_iff_not]
      refine hdraw_intro (by kernel_rfl) ?_
      simp (maxSteps := 2000000) +contextual [e0, e3, e4, hlt, hgx, hgx2, insD_length, insD_def, h, wantT_length, -decide_eq_true_eq, -decide_eq_false_iff_not]
      intro b5 hb5
      refine hloop_intro (fun n' e' s' => ∃ (q : Nat) (done todo : List Ins) (at1 : List Attr) (tk : Tok) (s4 : Store), todo.length ≤ n' ∧ Sm ats (done ++ todo) ∧ Sm (done.map insA) at1 ∧ Sm q (p + 1 + done.length) ∧ e' 0 = .list (l.map insD) t0 ∧ e' 3 = .list (out.map wantT) tok ∧ e' 4 = .int .i64 p ∧ e' 5 = .ptr b5 0 ∧ e' 6 = .int .i64 q ∧
        s' b5 = some (.cells [.int .i64 1, .str x.a, .str x.b, .str ⟨#[]⟩, .list (at1.map attrD) tk, .list [] .nil]) ∧ Gr 3 s (at1.map attrD) tk s4 ∧ SLe s4 s') ats.length ?_ ?_
      · refine ⟨p + 1, [], ats, [], .nil, s, Nat.le_refl _, rfl, rfl, rfl, ?_⟩
        simp (maxSteps := 2000000) +contextual [e0, e3, e4, hw1, -decide_eq_true_eq, -decide_eq_false_iff_not]
        exact ⟨.nil, by (intro xx oo hh; simp only [Store.set] at hh ⊢; grind)⟩
      · rintro n' e' s' ⟨q, done, todo, at1, tk, s4, hn', hats, hat, hq, f0, f3, f4, f5, f6, hs5, hga, hs4⟩
        have hats : ats = done ++ todo := hats
        have hat : done.map insA = at1 := hat
        have hq : q = p + 1 + done.length := hq
        have hal : at1.length = done.length := by rw [← hat]; simp
        have hatl : ats.length = done.length + todo.length := by rw [hats]; simp
        have hgq : l[q]? = (todo ++ tl)[0]? := by
          rw [hq, hgj, hats, List.append_assoc, List.getElem?_append_right (Nat.le_refl _), Nat.sub_self]
        cases todo with
        | cons y td =>
          have hy : isTell y.op = true := ha y (by rw [hats]; simp)
          have hgy : l[q]? = some y := hgq
          have hqlt : q < l.length := by simp only [List.length_cons] at hatl; omega
          have hgy2 : ∀ h : q < l.length, l[q] = y := fun h => by have := List.getElem?_eq_getElem h; rw [hgy] at this; injection this with this; exact this.symm
          simp (maxSteps := 2000000) +contextual [f0, f3, f4, f5, f6, hqlt, hgy, hgy2, hs5, insD_length, insD_def, -decide_eq_true_eq, -decide_eq_false_iff_not]
          refine c_rtells _ _ _ ?_
          rw [show (decide (y.op = 5) || decide (y.op = 6)) = true from hy]
          simp (maxSteps := 2000000) +contextual [f0, f3, f4, f5, f6, hqlt, hgy, hgy2, hs5, insD_length, insD_def, -decide_eq_true_eq, -decide_eq_false_iff_not]
          refine hdraw_cut 20 _ (SLe.refl _) (by kernel_rfl) (by kernel_rfl) ?_
          simp (maxSteps := 2000000) +contextual [f0, f3, f4, f5, f6, hqlt, hgy, hgy2, hs5, insD_length, insD_def, attrD_length, -decide_eq_true_eq, -decide_eq_false_iff_not]
          refine ⟨fun _ => none, (fun _ _ h => by cases h), ?_⟩
          refine hga.appendT hs4 [insA y] ?_ ?_ ?_ ?_ ?_
          · rfl
          · rfl
          · (try simp); omega
          · (try simp); omega
          intro ats1 tok1 s1 s2 ho1 hs1 hk1 hg1
          have k5 := hk1.cells hs5
          have hoff := hg1.off hs1 hb5 k5
          have hw2 : IntKind.i64.wrap ((q : Int) + 1) = ((q + 1 : Nat) : Int) := by rw [wrap_i64] <;> omega
          simp (maxSteps := 2000000) +contextual [f0, f3, f4, f5, f6, k5, hw2, -decide_eq_true_eq, -decide_eq_false_iff_not]
          refine ⟨by (intro xx oo hh; simp only [Store.set] at hh ⊢; grind), by (intro xx oo hh; simp only [Store.set] at hh ⊢; grind), n' - 1, by simp only [List.length_cons] at hn'; omega, _, SLe.refl _, q + 1, done ++ [y], td, by simp only [List.length_cons] at hn'; omega, ?_, ats1, ?_, ?_, by omega, tok1, by rw [Store.set_same], s2, hg1, hs1.put hoff _⟩
          · show ats = done ++ [y] ++ td; rw [hats]; simp
          · show (done ++ [y]).map insA = ats1; rw [ho1, ← hat]; simp
          · show q + 1 = p + 1 + (done ++ [y]).length; simp; omega
        | nil =>
          cases htl0 : tl with
          | nil =>
            have hqn : ¬ q < l.length := by rw [htl0] at hltl; simp only [List.length_nil] at hltl hatl; omega
            simp (maxSteps := 2000000) +contextual [f0, f3, f4, f5, f6, hqn, hs5, insD_length, insD_def, -decide_eq_true_eq, -decide_eq_false_iff_not]
            have hat2 : at1 = ats.map insA := by rw [← hat, hats]; simp
            have hce := c_endE l pre (ats ++ body) r x c t0 hl1 (by rw [hpr]; simp) h hc ((Nice.all fun y hy => tell_ops (ha y hy)).app (blk_nice b1))
            rw [← hp] at hce
            refine hce _ _ ?_
            simp (maxSteps := 2000000) +contextual [f0, f3, f4, f5, f6, hlt, hgx, hgx2, h, insD_length, insD_def, hs5, wantT_length, -decide_eq_true_eq, -decide_eq_false_iff_not]
            have hbd : l = (pre ++ x :: ats) ++ (body ++ c :: r) := by rw [hpr]; simp
            have hdn : ats = done := by rw [hats]; simp
            have hq1 : (pre ++ x :: ats).length = q := by simp; rw [hdn]; omega
            have htn : ((p : Int) + 1 + ((ats.length : Int) + (body.length : Int))).toNat = q + body.length := by rw [hdn]; omega
            have hsl : List.drop q (List.take ((p : Int) + 1 + ((ats.length : Int) + (body.length : Int))).toNat (List.map insD l)) = body.map insD := by
              rw [htn, ← List.map_take, ← List.map_drop, hbd, ← hq1, List.take_length_add_append, List.drop_left, List.take_left]
            have hll : l.length = q + body.length + 1 + r.length := by rw [hbd, List.length_append, hq1]; simp; omega
            refine ⟨⟨by rw [hdn]; omega, by rw [hdn]; omega⟩, ?_⟩
            rw [hsl]
            refine sub body ks .ro b1 (by omega) (hl.sub (by rw [hbd]; exact (List.sublist_append_left body (c :: r)).trans (List.sublist_append_right _ _))) _ _ ?_
            simp (maxSteps := 2000000) +contextual [f0, f3, f4, f5, f6, hlt, hgx, hgx2, h, insD_length, insD_def, hs5, wantT_length, -decide_eq_true_eq, -decide_eq_false_iff_not]
            refine hg.appendT ((hs3.trans (hga.le.trans hs4)).put (hs3.none hb5) _) [⟨.mk 1 x.a x.b ⟨#[]⟩ at1 ks, tk, .ro⟩] ?_ ?_ ?_ ?_ ?_
            · rfl
            · rfl
            · (try simp); omega
            · (try simp); omega
            intro out1 tok1 s1 s2 g1 g2 g3 g4
            simp (maxSteps := 2000000) +contextual [f0, f3, f4, f5, f6, -decide_eq_true_eq, -decide_eq_false_iff_not]
            exact fin (p + 1 + (ats.length + body.length)) _ (x :: (ats ++ (body ++ [c]))) r wr' out1 tok1 s1 s2 (by simp) (by simp) (by simp; omega) b2 (by rw [hat2]) g1 g2 g4
          | cons z zs =>
            have hz : isTell z.op = false := hnt z zs htl0
            have hgz : l[q]? = some z := by rw [hgq, htl0]; rfl
            have hqlt : q < l.length := by have := (List.getElem?_eq_some_iff.1 hgz).1; exact this
            have hgz2 : ∀ h : q < l.length, l[q] = z := fun h => by have := List.getElem?_eq_getElem h; rw [hgz] at this; injection this with this; exact this.symm
            simp (maxSteps := 2000000) +contextual [f0, f3, f4, f5, f6, hqlt, hgz, hgz2, hs5, insD_length, insD_def, -decide_eq_true_eq, -decide_eq_false_iff_not]
            refine c_rtells _ _ _ ?_
            rw [show (decide (z.op = 5) || decide (z.op = 6)) = false from hz]
            simp (maxSteps := 2000000) +contextual [f0, f3, f4, f5, f6, hqlt, hgz, hgz2, hs5, insD_length, insD_def, -decide_eq_true_eq, -decide_eq_false_iff_not]
            have hat2 : at1 = ats.map insA := by rw [← hat, hats]; simp
            have hce := c_endE l pre (ats ++ body) r x c t0 hl1 (by rw [hpr]; simp) h hc ((Nice.all fun y hy => tell_ops (ha y hy)).app (blk_nice b1))
            rw [← hp] at hce
            refine hce _ _ ?_
            simp (maxSteps := 2000000) +contextual [f0, f3, f4, f5, f6, hlt, hgx, hgx2, h, insD_length, insD_def, hs5, wantT_length, -decide_eq_true_eq, -decide_eq_false_iff_not]
            have hbd : l = (pre ++ x :: ats) ++ (body ++ c :: r) := by rw [hpr]; simp
            have hdn : ats = done := by rw [hats]; simp
            have hq1 : (pre ++ x :: ats).length = q := by simp; rw [hdn]; omega
            have htn : ((p : Int) + 1 + ((ats.length : Int) + (body.length : Int))).toNat = q + body.length := by rw [hdn]; omega
            have hsl : List.drop q (List.take ((p : Int) + 1 + ((ats.length : Int) + (body.length : Int))).toNat (List.map insD l)) = body.map insD := by
              rw [htn, ← List.map_take, ← List.map_drop, hbd, ← hq1, List.take_length_add_append, List.drop_left, List.take_left]
            have hll : l.length = q + body.length + 1 + r.length := by rw [hbd, List.length_append, hq1]; simp; omega
            refine ⟨⟨by rw [hdn]; omega, by rw [hdn]; omega⟩, ?_⟩
            rw [hsl]
            refine sub body ks .ro b1 (by omega) (hl.sub (by rw [hbd]; exact (List.sublist_append_left body (c :: r)).trans (List.sublist_append_right _ _))) _ _ ?_
            simp (maxSteps := 2000000) +contextual [f0, f3, f4, f5, f6, hlt, hgx, hgx2, h, insD_length, insD_def, hs5, wantT_length, -decide_eq_true_eq, -decide_eq_false_iff_not]
            refine hg.appendT ((hs3.trans (hga.le.trans hs4)).put (hs3.none hb5) _) [⟨.mk 1 x.a x.b ⟨#[]⟩ at1 ks, tk, .ro⟩] ?_ ?_ ?_ ?_ ?_
            · rfl
            · rfl
            · (try simp); omega
            · (try simp); omega
            intro out1 tok1 s1 s2 g1 g2 g3 g4
            simp (maxSteps := 2000000) +contextual [f0, f3, f4, f5, f6, -decide_eq_true_eq, -decide_eq_false_iff_not]
            exact fin (p + 1 + (ats.length + body.length)) _ (x :: (ats ++ (body ++ [c]))) r wr' out1 tok1 s1 s2 (by simp) (by simp) (by simp; omega) b2 (by rw [hat2]) g1 g2 g4
/- end of of -/
theorem c_rof : ∀ (n : Nat) (l : List Ins) (ws : List Want) (t0 : Tok), l.length ≤ n → Blk l ws → FitL l → Ret Try.prog 48 [.list (l.map insD) t0] (.list (ws.map wantD) .ro) := by
  intro n
  induction n with
  | zero => intro l ws t0 hn hb hl; exact c_rof_of l ws t0 hb hl fun b ks t h1 h2 h3 => by omega
  | succ n ih => intro l ws t0 hn hb hl; exact c_rof_of l ws t0 hb hl fun b ks t h1 h2 h3 => ih b ks t (by omega) h1 h3
end Go.HL
