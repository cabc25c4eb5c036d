/- Bounds: the laws BoundTells and BoundMore. -/
import Derived.Test.YtdbbbhjajkobaaaGwish
import Derived.Test.YtdbbbhjajkobaaaGlawk
set_option linter.unusedVariables false
set_option linter.unusedSimpArgs false
set_option maxRecDepth 100000
set_option maxHeartbeats 1000000
namespace Go.HL
open Go.RowKit Go.Proofs

theorem wantD_get (w : Want) (j : Nat) : (wantD w)[j]? = [D.int .i64 w.kind, .str w.tag, .str w.key, .str w.text, .list (w.attrs.map attrD) .ro, .list (w.kids.map wantD) .ro][j]? := by rw [wantD_eq]
/-- The document's: the same, told alike. -/
theorem c_as : ∀ (m : Nat) (l : List Want) (t0 : Tok), szL l < m → szL l ≤ 1048576 → Ret Try.prog 44 [.list (l.map wantD) t0] (.list (l.map wantD) .ro) := by
  intro m
  induction m with
  | zero => intro l t0 h; omega
  | succ m ih =>
    intro l t0 hm hsz
    have hl := sz_len l
    refine RetL.ro (RetL.of fun σ => ?_)
    refine HCalls.start mixed false _ _ (fn := Try.f44) (by kernel_rfl) rfl (by kernel_rfl) rfl (by kernel_rfl) (by kernel_rfl) ?_
    simp (maxSteps := 2000000) +contextual [-decide_eq_true_eq, -decide_eq_false_iff_not]
    refine hloop_intro (fun n e s => ∃ (i : Nat) (tok : Tok) (out : List Want), i + n = l.length ∧ e 0 = .list (l.map wantD) t0 ∧ e 3 = .list (out.map wantD) tok ∧ e 4 = .int .i64 i ∧ Gr 6 σ (out.map wantD) tok s ∧ Sm (l.take i) out) l.length ?_ ?_
    · exact ⟨0, .nil, [], by simp, by simp, by simp, by simp, .nil, rfl⟩
    · rintro n e s ⟨i, tok, out, hi, e0, e3, e4, hg, ho⟩
      have ho : l.take i = out := ho
      have hol : out.length = i := by rw [← ho]; simp; omega
      by_cases h4 : i < l.length
      · obtain ⟨w, hw, hw2⟩ : ∃ w, l[i]? = some w ∧ l[i] = w := ⟨_, List.getElem?_eq_getElem h4, rfl⟩
        have hszw := sz_mem (List.mem_of_getElem? hw)
        have hsw := szW_eq w
        have hn := take_next hw
        simp (maxSteps := 2000000) +contextual [e0, e3, e4, h4, -decide_eq_true_eq, -decide_eq_false_iff_not]
        refine hdraw_cut 34 s (SLe.refl _) (by kernel_rfl) (by kernel_rfl) ?_
        simp (maxSteps := 2000000) +contextual [e0, e3, e4, wantD_length, wantD_eq w, h4, hw, hw2, -decide_eq_true_eq, -decide_eq_false_iff_not]
        refine ih w.kids .ro (by omega) (by omega) _ _ ?_
        simp (maxSteps := 2000000) +contextual [e0, e3, e4, wantD_length, wantD_eq w, h4, hw, hw2, -decide_eq_true_eq, -decide_eq_false_iff_not]
        refine ⟨fun _ => none, (fun _ _ h => by cases h), ?_⟩
        rw [← wantD_eq w]
        refine hg.appendT (SLe.refl s) [w] ?_ ?_ ?_ ?_ ?_
        · rfl
        · rfl
        · (try simp); omega
        · (try simp); omega
        intro out1 tok1 s1 s2 ho1 hs1 hk1 hg1
        simp (maxSteps := 2000000) +contextual [e0, e3, e4, -decide_eq_true_eq, -decide_eq_false_iff_not]
        refine ⟨by (intro xx oo hh; simp only [Store.set] at hh ⊢; grind), n - 1, by omega, s2, hs1, i + 1, by omega, tok1, out1, ⟨rfl, rfl⟩, by rw [wrap_i64] <;> omega, hg1, ?_⟩
        show l.take (i + 1) = out1
        rw [hn, ho1, ho]
      · simp (maxSteps := 2000000) +contextual [e0, e3, e4, h4, -decide_eq_true_eq, -decide_eq_false_iff_not]
        rw [List.take_of_length_le (by omega)] at ho
        exact ⟨hg.le, by rw [ho]⟩
theorem c_rcount : ∀ (m : Nat) (l : List Want) (t0 : Tok), szL l < m → szL l ≤ 1048576 → Ret Try.prog 43 [.list (l.map wantD) t0] (.int .i64 (cntL l)) := by
  intro m
  induction m with
  | zero => intro l t0 h; omega
  | succ m ih =>
    intro l t0 hm hsz
    have hl := sz_len l
    have hc := cnt_sz (szL l + 1) l (by omega)
    refine Ret.of fun σ => ?_
    refine HCalls.start mixed false _ _ (fn := Try.f43) (by kernel_rfl) rfl (by kernel_rfl) rfl (by kernel_rfl) (by kernel_rfl) ?_
    simp (maxSteps := 2000000) +contextual [-decide_eq_true_eq, -decide_eq_false_iff_not]
    refine hloop_fix (fun n e => ∃ i : Nat, i + n = l.length ∧ e 0 = .list (l.map wantD) t0 ∧ e 4 = .int .i64 i ∧ e 3 = .int .i64 (cntL (l.take i))) l.length ?_ ?_
    · exact ⟨0, by simp [cntL]⟩
    · rintro n e ⟨i, hi, e0, e4, e3⟩
      by_cases h4 : i < l.length
      · obtain ⟨w, hw, hw2⟩ : ∃ w, l[i]? = some w ∧ l[i] = w := ⟨_, List.getElem?_eq_getElem h4, rfl⟩
        have hmem := List.mem_of_getElem? hw
        have hszw := sz_mem hmem
        have hsw := szW_eq w
        have hcn : cntL (l.take (i + 1)) = cntL (l.take i) + cntW w := by rw [take_next hw, cntL_append]; simp [cntL]
        have hle : cntL (l.take (i + 1)) ≤ cntL l := by
          have := cntL_append (l.take (i + 1)) (l.drop (i + 1))
          rw [List.take_append_drop] at this; omega
        rw [cntW_eq] at hcn
        have fin : ∀ (c : Int), c = (cntL (l.take (i + 1)) : Nat) → ∃ m, m < n ∧ ∃ i_1 : Nat, i_1 + m = l.length ∧ IntKind.i64.wrap (↑i + 1) = ↑i_1 ∧ c = (cntL (l.take i_1) : Nat) := fun c h2 =>
          ⟨n - 1, by omega, i + 1, by omega, by rw [wrap_i64] <;> omega, h2⟩
        by_cases h1 : w.kind = 1
        · rw [if_pos h1] at hcn
          have hw1 : IntKind.i64.wrap ((cntL (l.take i) : Int) + 1) = (cntL (l.take i) : Int) + 1 := by rw [wrap_i64] <;> omega
          have hw3 : IntKind.i64.wrap ((cntL (l.take i) : Int) + 1 + cntL w.kids) = ((cntL (l.take (i + 1)) : Nat) : Int) := by rw [wrap_i64] <;> omega
          simp (maxSteps := 2000000) +contextual [e0, e3, e4, wantD_length, wantD_eq w, h4, hw, hw2, h1, hw1, -decide_eq_true_eq, -decide_eq_false_iff_not]
          refine ih w.kids .ro (by omega) (by omega) _ _ ?_
          simp (maxSteps := 2000000) +contextual [e0, e3, e4, hw3, -decide_eq_true_eq, -decide_eq_false_iff_not]
          exact fin _ rfl
        · by_cases h2 : w.kind = 2
          · rw [if_neg h1, if_pos h2] at hcn
            have hw1 : IntKind.i64.wrap ((cntL (l.take i) : Int) + 1) = ((cntL (l.take (i + 1)) : Nat) : Int) := by rw [wrap_i64] <;> omega
            simp (maxSteps := 2000000) +contextual [e0, e3, e4, wantD_length, wantD_eq w, h4, hw, hw2, h2, hw1, -decide_eq_true_eq, -decide_eq_false_iff_not]
            exact fin _ rfl
          · rw [if_neg h1, if_neg h2] at hcn
            simp (maxSteps := 2000000) +contextual [e0, e3, e4, wantD_length, wantD_eq w, h4, hw, hw2, h1, h2, -decide_eq_true_eq, -decide_eq_false_iff_not]
            exact fin _ (by omega)
      · rw [List.take_of_length_le (by omega)] at e3
        simp (maxSteps := 2000000) +contextual [e0, e3, e4, h4, -decide_eq_true_eq, -decide_eq_false_iff_not]
theorem c_nodes (l : List Want) (t0 : Tok) (h : szL l ≤ 1048576) : Ret Try.prog 45 [.list (l.map wantD) t0] (.int .i64 (cntL l)) := by
  refine Ret.of fun σ => ?_
  refine HCalls.start mixed false _ _ (fn := Try.f45) (by kernel_rfl) rfl (by kernel_rfl) rfl (by kernel_rfl) (by kernel_rfl) ?_
  simp (maxSteps := 2000000) +contextual [-decide_eq_true_eq, -decide_eq_false_iff_not]
  refine c_count _ l t0 (Nat.lt_succ_self _) h _ _ ?_
  simp (maxSteps := 2000000) +contextual [-decide_eq_true_eq, -decide_eq_false_iff_not]
theorem c_changes (l : List Want) (t0 : Tok) (old : Int) (h : szL l ≤ 1048576) (ho : old ≤ 1000001) : Ret Try.prog 46 [.list (l.map wantD) t0, .int .i64 old] (.int .i64 (4 * (cntL l : Int) + 2 * (if 0 > old then 0 else old) + 1)) := by
  refine Ret.of fun σ => ?_
  have hc := cnt_sz (szL l + 1) l (by omega)
  refine HCalls.start mixed false _ _ (fn := Try.f46) (by kernel_rfl) rfl (by kernel_rfl) rfl (by kernel_rfl) (by kernel_rfl) ?_
  simp (maxSteps := 2000000) +contextual [-decide_eq_true_eq, -decide_eq_false_iff_not]
  refine c_nodes l t0 h _ _ ?_
  have h1 : IntKind.i64.wrap (4 * (cntL l : Int)) = 4 * (cntL l : Int) := by rw [wrap_i64] <;> omega
  have h2 : IntKind.i64.wrap (2 * (if old < 0 then 0 else old)) = 2 * (if old < 0 then 0 else old) := by split <;> (rw [wrap_i64] <;> omega)
  have h3 : IntKind.i64.wrap (4 * (cntL l : Int) + 2 * (if old < 0 then 0 else old)) = 4 * (cntL l : Int) + 2 * (if old < 0 then 0 else old) := by split <;> (rw [wrap_i64] <;> omega)
  have h4 : IntKind.i64.wrap (4 * (cntL l : Int) + 2 * (if old < 0 then 0 else old) + 1) = 4 * (cntL l : Int) + 2 * (if old < 0 then 0 else old) + 1 := by split <;> (rw [wrap_i64] <;> omega)
  simp (maxSteps := 2000000) +contextual [h1, h2, h3, h4, -decide_eq_true_eq, -decide_eq_false_iff_not]
theorem c_up18 : Ret Try.prog 41 [] (.bool true) := by
  refine Ret.of fun σ => ?_
  refine HCalls.start mixed false _ _ (fn := Try.f41) (by kernel_rfl) rfl (by kernel_rfl) rfl (by kernel_rfl) (by kernel_rfl) ?_
  simp (maxSteps := 2000000) +contextual [-decide_eq_true_eq, -decide_eq_false_iff_not]
  have e0 : cntL [] = 0 := rfl
  refine c_nodes [] .nil (by decide) _ _ ?_
  simp (maxSteps := 2000000) +contextual [e0, -decide_eq_true_eq, -decide_eq_false_iff_not]
  refine c_changes [] .nil 3 (by decide) (by decide) _ _ ?_
  simp (maxSteps := 2000000) +contextual [e0, -decide_eq_true_eq, -decide_eq_false_iff_not]
  refine c_changes [] .nil (-3) (by decide) (by decide) _ _ ?_
  simp (maxSteps := 2000000) +contextual [e0, -decide_eq_true_eq, -decide_eq_false_iff_not]
theorem c_lawTells18 (l : List Ins) (t0 : Tok) (old : Int) (hw : (Lit.int .i64 old).wf = true) : Ret Try.prog 9 [.list (l.map insD) t0, .int .i64 old] (.bool true) := by
  refine Ret.of fun σ => ?_
  refine HCalls.start mixed false _ _ (fn := Try.f9) (by kernel_rfl) rfl (by kernel_rfl) rfl (by kernel_rfl) (by kernel_rfl) ?_
  simp (maxSteps := 2000000) +contextual [-decide_eq_true_eq, -decide_eq_false_iff_not]
  refine c_up18 _ _ ?_
  simp (maxSteps := 2000000) +contextual [-decide_eq_true_eq, -decide_eq_false_iff_not]
  refine c_few12 l t0 _ _ ?_
  cases hfew : fewI l with
  | false => simp (maxSteps := 2000000) +contextual [-decide_eq_true_eq, -decide_eq_false_iff_not]
  | true =>
    have hf := fewI_fit hfew
    have hl := (fewI_fits hfew).1
    by_cases hold : 1000000 < old
    · simp (maxSteps := 2000000) +contextual [hold, -decide_eq_true_eq, -decide_eq_false_iff_not]
    · simp (maxSteps := 2000000) +contextual [hold, -decide_eq_true_eq, -decide_eq_false_iff_not]
      refine c_wof l t0 hf _ _ ?_
      unfold ofD
      by_cases h : chkP l = 0
      · have hsz := someP_sz l
        have hc := cnt_sz (szL (someP l).1 + 1) (someP l).1 (by omega)
        rw [if_pos h]
        simp (maxSteps := 2000000) +contextual [-decide_eq_true_eq, -decide_eq_false_iff_not]
        refine c_as _ (someP l).1 .ro (Nat.lt_succ_self _) (by omega) _ _ ?_
        simp (maxSteps := 2000000) +contextual [-decide_eq_true_eq, -decide_eq_false_iff_not]
        refine c_rcount _ (someP l).1 .ro (Nat.lt_succ_self _) (by omega) _ _ ?_
        generalize (someP l).1 = ws at *
        by_cases hneg : old < 0
        · simp (maxSteps := 2000000) +contextual [hneg, -decide_eq_true_eq, -decide_eq_false_iff_not]
          refine c_nodes ws .ro (by omega) _ _ ?_
          simp (maxSteps := 2000000) +contextual [hneg, -decide_eq_true_eq, -decide_eq_false_iff_not]
          refine c_changes ws .ro old (by omega) (by omega) _ _ ?_
          have h1 : IntKind.i64.wrap (4 * (cntL ws : Int)) = 4 * (cntL ws : Int) := by rw [wrap_i64] <;> omega
          have h2 : IntKind.i64.wrap (4 * (cntL ws : Int) + 1) = 4 * (cntL ws : Int) + 1 := by rw [wrap_i64] <;> omega
          have h3 : IntKind.i64.wrap 0 = 0 := by decide
          simp (maxSteps := 2000000) +contextual [hneg, h1, h2, h3, -decide_eq_true_eq, -decide_eq_false_iff_not]
        · simp (maxSteps := 2000000) +contextual [hneg, -decide_eq_true_eq, -decide_eq_false_iff_not]
          refine c_nodes ws .ro (by omega) _ _ ?_
          simp (maxSteps := 2000000) +contextual [hneg, -decide_eq_true_eq, -decide_eq_false_iff_not]
          refine c_changes ws .ro old (by omega) (by omega) _ _ ?_
          have h1 : IntKind.i64.wrap (4 * (cntL ws : Int)) = 4 * (cntL ws : Int) := by rw [wrap_i64] <;> omega
          have h2 : IntKind.i64.wrap (2 * old) = 2 * old := by rw [wrap_i64] <;> omega
          have h3 : IntKind.i64.wrap (4 * (cntL ws : Int) + 2 * old) = 4 * (cntL ws : Int) + 2 * old := by rw [wrap_i64] <;> omega
          have h4 : IntKind.i64.wrap (4 * (cntL ws : Int) + 2 * old + 1) = 4 * (cntL ws : Int) + 2 * old + 1 := by rw [wrap_i64] <;> omega
          simp (maxSteps := 2000000) +contextual [hneg, h1, h2, h3, h4, -decide_eq_true_eq, -decide_eq_false_iff_not]
      · have he : errD (chkP l) = .lit (.iface 39 (.int .i64 (chkP l))) := by simp [errD, h]
        rw [if_neg h, he]
        simp (maxSteps := 2000000) +contextual [-decide_eq_true_eq, -decide_eq_false_iff_not]
theorem c_lawMore18 (l m : List Ins) (t0 t1 : Tok) (old : Int) (hw : (Lit.int .i64 old).wf = true) : Ret Try.prog 10 [.list (l.map insD) t0, .list (m.map insD) t1, .int .i64 old] (.bool true) := by
  refine Ret.of fun σ => ?_
  refine HCalls.start mixed false _ _ (fn := Try.f10) (by kernel_rfl) rfl (by kernel_rfl) rfl (by kernel_rfl) (by kernel_rfl) ?_
  simp (maxSteps := 2000000) +contextual [-decide_eq_true_eq, -decide_eq_false_iff_not]
  refine c_up18 _ _ ?_
  simp (maxSteps := 2000000) +contextual [-decide_eq_true_eq, -decide_eq_false_iff_not]
  refine c_few12 l t0 _ _ ?_
  cases hfew : fewI l with
  | false => simp (maxSteps := 2000000) +contextual [-decide_eq_true_eq, -decide_eq_false_iff_not]
  | true =>
    have hf := fewI_fit hfew
    have hl := (fewI_fits hfew).1
    simp (maxSteps := 2000000) +contextual [-decide_eq_true_eq, -decide_eq_false_iff_not]
    refine c_few12 m t1 _ _ ?_
    cases hfew2 : fewI m with
    | false => simp (maxSteps := 2000000) +contextual [-decide_eq_true_eq, -decide_eq_false_iff_not]
    | true =>
      have hf2 := fewI_fit hfew2
      have hl2 := (fewI_fits hfew2).1
      by_cases hold : 1000000 < old
      · simp (maxSteps := 2000000) +contextual [hold, -decide_eq_true_eq, -decide_eq_false_iff_not]
      · by_cases hneg : old < 0
        · simp (maxSteps := 2000000) +contextual [hold, hneg, -decide_eq_true_eq, -decide_eq_false_iff_not]
        · simp (maxSteps := 2000000) +contextual [hold, hneg, -decide_eq_true_eq, -decide_eq_false_iff_not]
          refine c_wof l t0 hf _ _ ?_
          unfold ofD
          by_cases h : chkP l = 0
          · have hsz := someP_sz l
            rw [if_pos h]
            simp (maxSteps := 2000000) +contextual [-decide_eq_true_eq, -decide_eq_false_iff_not]
            refine c_wof m t1 hf2 _ _ ?_
            unfold ofD
            by_cases h2 : chkP m = 0
            · have hsz2 := someP_sz m
              rw [if_pos h2]
              generalize (someP l).1 = A at *
              generalize (someP m).1 = B at *
              have hAl := sz_len A
              have hBl := sz_len B
              have hAB : szL (A ++ B) ≤ 1048576 := by rw [szL_append]; omega
              have hcAB : cntL (A ++ B) = cntL A + cntL B := cntL_append A B
              have hcA := cnt_sz (szL A + 1) A (by omega)
              have hcB := cnt_sz (szL B + 1) B (by omega)
              have w1 : IntKind.i64.wrap ((cntL A : Int) + cntL B) = ((cntL (A ++ B) : Nat) : Int) := by rw [wrap_i64] <;> omega
              have w2 : IntKind.i64.wrap (old + 1) = old + 1 := by rw [wrap_i64] <;> omega
              have hneg' : ¬ (old + 1 < 0) := by omega
              have hge : decide (4 * (cntL A : Int) + 2 * old + 1 ≤ 4 * ((cntL (A ++ B) : Nat) : Int) + 2 * old + 1) = true := by simp; omega
              have hgt : decide (4 * (cntL A : Int) + 2 * old + 1 < 4 * (cntL A : Int) + 2 * (old + 1) + 1) = true := by simp; omega
              have c1 : ∀ tk, Ret Try.prog 46 [.list ((A ++ B).map wantD) tk, .int .i64 old] (.int .i64 (4 * ((cntL (A ++ B) : Nat) : Int) + 2 * old + 1)) := fun tk => by
                have := c_changes (A ++ B) tk old hAB (by omega)
                rwa [if_neg hneg] at this
              have c2 : Ret Try.prog 46 [.list (A.map wantD) .ro, .int .i64 old] (.int .i64 (4 * (cntL A : Int) + 2 * old + 1)) := by
                have := c_changes A .ro old (by omega) (by omega)
                rwa [if_neg hneg] at this
              have c3 : Ret Try.prog 46 [.list (A.map wantD) .ro, .int .i64 (old + 1)] (.int .i64 (4 * (cntL A : Int) + 2 * (old + 1) + 1)) := by
                have := c_changes A .ro (old + 1) (by omega) (by omega)
                rwa [if_neg hneg'] at this
              have c4 : ∀ tk, Ret Try.prog 45 [.list ((A ++ B).map wantD) tk] (.int .i64 (cntL (A ++ B))) := fun tk => c_nodes (A ++ B) tk hAB
              have c5 := c_nodes A .ro (by omega)
              have c6 := c_nodes B .ro (by omega)
              generalize 4 * ((cntL (A ++ B) : Nat) : Int) + 2 * old + 1 = vb at c1 hge
              generalize 4 * (cntL A : Int) + 2 * old + 1 = va at c2 hge hgt
              generalize 4 * (cntL A : Int) + 2 * (old + 1) + 1 = va' at c3 hgt
              by_cases hA : A = []
              · subst hA
                by_cases hB : B = []
                · subst hB
                  simp only [List.append_nil, List.map_nil] at c1 c4 c2 c3 c5 c6 hge w1
                  simp (maxSteps := 2000000) +contextual [wantD_length, -decide_eq_true_eq, -decide_eq_false_iff_not]
                  refine c4 _ _ _ ?_
                  simp (maxSteps := 2000000) +contextual [-decide_eq_true_eq, -decide_eq_false_iff_not]
                  refine c5 _ _ ?_
                  simp (maxSteps := 2000000) +contextual [-decide_eq_true_eq, -decide_eq_false_iff_not]
                  refine c6 _ _ ?_
                  simp (maxSteps := 2000000) +contextual [w1, -decide_eq_true_eq, -decide_eq_false_iff_not]
                  refine c1 _ _ _ ?_
                  simp (maxSteps := 2000000) +contextual [-decide_eq_true_eq, -decide_eq_false_iff_not]
                  refine c2 _ _ ?_
                  simp (maxSteps := 2000000) +contextual [hge, -decide_eq_true_eq, -decide_eq_false_iff_not]
                  rw [w2]
                  refine c3 _ _ ?_
                  simp (maxSteps := 2000000) +contextual [-decide_eq_true_eq, -decide_eq_false_iff_not]
                  refine c2 _ _ ?_
                  simp (maxSteps := 2000000) +contextual [hgt, -decide_eq_true_eq, -decide_eq_false_iff_not]
                · simp only [List.nil_append, List.map_nil] at c1 c4 c2 c3 c5 c6 hge w1
                  simp (maxSteps := 2000000) +contextual [wantD_length, hB, -decide_eq_true_eq, -decide_eq_false_iff_not]
                  refine ⟨by omega, fun b c hb hc => ?_⟩
                  have hS : SLe σ (σ.set b (.spare B.length c 6)) := (SLe.refl σ).set hb _
                  refine c4 _ _ _ ?_
                  simp (maxSteps := 2000000) +contextual [-decide_eq_true_eq, -decide_eq_false_iff_not]
                  refine c5 _ _ ?_
                  simp (maxSteps := 2000000) +contextual [-decide_eq_true_eq, -decide_eq_false_iff_not]
                  refine c6 _ _ ?_
                  simp (maxSteps := 2000000) +contextual [w1, -decide_eq_true_eq, -decide_eq_false_iff_not]
                  refine c1 _ _ _ ?_
                  simp (maxSteps := 2000000) +contextual [-decide_eq_true_eq, -decide_eq_false_iff_not]
                  refine c2 _ _ ?_
                  simp (maxSteps := 2000000) +contextual [hge, -decide_eq_true_eq, -decide_eq_false_iff_not]
                  rw [w2]
                  refine c3 _ _ ?_
                  simp (maxSteps := 2000000) +contextual [-decide_eq_true_eq, -decide_eq_false_iff_not]
                  refine c2 _ _ ?_
                  simp (maxSteps := 2000000) +contextual [hgt, -decide_eq_true_eq, -decide_eq_false_iff_not]
                  exact hS
              · simp only [List.map_append] at c1 c4
                simp (maxSteps := 2000000) +contextual [wantD_length, hA, -decide_eq_true_eq, -decide_eq_false_iff_not]
                refine ⟨by omega, fun b c hb hc => ⟨by omega, fun h => ?_, fun h b' c' n1 hb' hc' => ?_⟩⟩
                · have hS : SLe σ (σ.set b (.spare (A.length + B.length) c 6)) := (SLe.refl σ).set hb _
                  refine c4 _ _ _ ?_
                  simp (maxSteps := 2000000) +contextual [-decide_eq_true_eq, -decide_eq_false_iff_not]
                  refine c5 _ _ ?_
                  simp (maxSteps := 2000000) +contextual [-decide_eq_true_eq, -decide_eq_false_iff_not]
                  refine c6 _ _ ?_
                  simp (maxSteps := 2000000) +contextual [w1, -decide_eq_true_eq, -decide_eq_false_iff_not]
                  refine c1 _ _ _ ?_
                  simp (maxSteps := 2000000) +contextual [-decide_eq_true_eq, -decide_eq_false_iff_not]
                  refine c2 _ _ ?_
                  simp (maxSteps := 2000000) +contextual [hge, -decide_eq_true_eq, -decide_eq_false_iff_not]
                  rw [w2]
                  refine c3 _ _ ?_
                  simp (maxSteps := 2000000) +contextual [-decide_eq_true_eq, -decide_eq_false_iff_not]
                  refine c2 _ _ ?_
                  simp (maxSteps := 2000000) +contextual [hgt, -decide_eq_true_eq, -decide_eq_false_iff_not]
                  exact hS
                · have hS : SLe σ ((σ.set b (.spare A.length c 6)).set b' (.spare (A.length + B.length) c' 6)) := by (intro xx oo hh; simp only [Store.set] at hh ⊢; grind)
                  refine c4 _ _ _ ?_
                  simp (maxSteps := 2000000) +contextual [-decide_eq_true_eq, -decide_eq_false_iff_not]
                  refine c5 _ _ ?_
                  simp (maxSteps := 2000000) +contextual [-decide_eq_true_eq, -decide_eq_false_iff_not]
                  refine c6 _ _ ?_
                  simp (maxSteps := 2000000) +contextual [w1, -decide_eq_true_eq, -decide_eq_false_iff_not]
                  refine c1 _ _ _ ?_
                  simp (maxSteps := 2000000) +contextual [-decide_eq_true_eq, -decide_eq_false_iff_not]
                  refine c2 _ _ ?_
                  simp (maxSteps := 2000000) +contextual [hge, -decide_eq_true_eq, -decide_eq_false_iff_not]
                  rw [w2]
                  refine c3 _ _ ?_
                  simp (maxSteps := 2000000) +contextual [-decide_eq_true_eq, -decide_eq_false_iff_not]
                  refine c2 _ _ ?_
                  simp (maxSteps := 2000000) +contextual [hgt, -decide_eq_true_eq, -decide_eq_false_iff_not]
                  exact hS
            · have he : errD (chkP m) = .lit (.iface 39 (.int .i64 (chkP m))) := by simp [errD, h2]
              rw [if_neg h2, he]
              simp (maxSteps := 2000000) +contextual [-decide_eq_true_eq, -decide_eq_false_iff_not]
          · have he : errD (chkP l) = .lit (.iface 39 (.int .i64 (chkP l))) := by simp [errD, h]
            rw [if_neg h, he]
            simp (maxSteps := 2000000) +contextual [-decide_eq_true_eq, -decide_eq_false_iff_not]
            refine c_wof m t1 hf2 _ _ ?_
            unfold ofD
            by_cases h2 : chkP m = 0
            · rw [if_pos h2]
              simp (maxSteps := 2000000) +contextual [-decide_eq_true_eq, -decide_eq_false_iff_not]
            · have he : errD (chkP m) = .lit (.iface 39 (.int .i64 (chkP m))) := by simp [errD, h2]
              rw [if_neg h2, he]
              simp (maxSteps := 2000000) +contextual [-decide_eq_true_eq, -decide_eq_false_iff_not]
end Go.HL
