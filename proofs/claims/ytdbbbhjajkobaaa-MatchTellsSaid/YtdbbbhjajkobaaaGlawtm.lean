/- The law MatchTells. -/
import Derived.Test.YtdbbbhjajkobaaaGmlaw
set_option linter.unusedVariables false
set_option linter.unusedSimpArgs false
set_option maxRecDepth 100000
set_option maxHeartbeats 4000000
namespace Go.HL
open Go.RowKit Go.Proofs

theorem ite_tup {a b c : Prop} [Decidable a] [Decidable b] (h : a) (h' : b) (x y : D) : (if a ∧ b then x else y) = x := if_pos ⟨h, h'⟩
theorem c_lawTells16 (os : List Old) (l : List Ins) (t0 t1 : Tok) : Ret Try.prog 12 [.list (os.map oldD) t0, .list (l.map insD) t1] (.bool true) := by
  refine Ret.of fun σ => ?_
  refine HCalls.start mixed false _ _ (fn := Try.f12) (by kernel_rfl) rfl (by kernel_rfl) rfl (by kernel_rfl) (by kernel_rfl) ?_
  simp (maxSteps := 2000000) +contextual [-decide_eq_true_eq, -decide_eq_false_iff_not]
  refine c_up16 _ _ ?_
  simp (maxSteps := 2000000) +contextual [-decide_eq_true_eq, -decide_eq_false_iff_not]
  refine c_wants16 l t1 _ _ ?_
  by_cases hok : fewI l = true ∧ chkP l = 0
  · rw [if_pos hok]
    have hsz := someP_sz l
    have hl := (fewI_fits hok.1).1
    generalize (someP l).1 = ws at *
    have hwl := sz_len ws
    simp (maxSteps := 2000000) +contextual [-decide_eq_true_eq, -decide_eq_false_iff_not]
    intro h30
    have h30 := dec_f h30
    refine hloop_intro (fun n e s => ∃ (i : Nat) (pre : List Old) (tok : Tok), i + n = os.length ∧ e 0 = .list (os.map oldD) t0 ∧ e 5 = .bool true ∧ e 6 = .list (ws.map wantD) .ro ∧ e 8 = .list (pre.map oldD) tok ∧ e 9 = .int .i64 i ∧ GrV 2 σ (pre.map oldD) tok s ∧ SLe σ s ∧ Sm pre (os.take i)) os.length ?_ ?_
    · refine ⟨0, [], .nil, by simp, ?_⟩
      simp (maxSteps := 2000000) +contextual [-decide_eq_true_eq, -decide_eq_false_iff_not]
      exact ⟨.nil _, rfl⟩
    · rintro n e s ⟨i, pre, tok, hi, e0, e5, e6, e8, e9, gG, hs, hpre⟩
      have hpre : pre = os.take i := hpre
      by_cases h4 : i < os.length
      · obtain ⟨o, ho, ho2⟩ : ∃ o, os[i]? = some o ∧ os[i] = o := ⟨_, List.getElem?_eq_getElem h4, rfl⟩
        by_cases k1 : 100 < (o.tag.size : Int)
        · simp (maxSteps := 2000000) +contextual [e0, e5, e6, e8, e9, h4, oldD_length, ho2, oldD_def, decide_eq_true k1, -decide_eq_true_eq, -decide_eq_false_iff_not]
          exact hs
        · by_cases k2 : 100 < (o.key.size : Int)
          · simp (maxSteps := 2000000) +contextual [e0, e5, e6, e8, e9, h4, oldD_length, ho2, oldD_def, decide_eq_false k1, decide_eq_true k2, -decide_eq_true_eq, -decide_eq_false_iff_not]
            exact hs
          · by_cases k3 : o.tag = ⟨#[]⟩
            · by_cases k4 : o.key = ⟨#[]⟩
              · simp (maxSteps := 2000000) +contextual [e0, e5, e6, e8, e9, h4, oldD_length, ho2, oldD_def, decide_eq_false k1, decide_eq_false k2, decide_eq_true k3, decide_eq_true k4, -decide_eq_true_eq, -decide_eq_false_iff_not]
                refine hdraw_part σ hs (by kernel_rfl) ?_
                simp (maxSteps := 2000000) +contextual [e0, e5, e6, e8, e9, h4, oldD_length, ho2, oldD_def, -decide_eq_true_eq, -decide_eq_false_iff_not]
                have hpl : pre.length = i := by rw [hpre]; simp; omega
                refine gG.appendT hs [o] (by rw [List.map_singleton, oldD_def]) rfl (by simp; omega) (by simp only [List.length_singleton]; omega) ?_
                intro out tok' s' hout q1 q2 q3 q4
                simp (maxSteps := 2000000) +contextual [e0, e5, e6, e8, e9, h4, -decide_eq_true_eq, -decide_eq_false_iff_not]
                exact ⟨q1, n - 1, by omega, s', SLe.refl _, i + 1, by omega, out, tok', ⟨rfl, rfl⟩, by rw [wrap_i64] <;> omega, q4, q1, by show out = _; rw [hout, hpre, List.take_add_one, ho]; rfl⟩
              · simp (maxSteps := 2000000) +contextual [e0, e5, e6, e8, e9, h4, oldD_length, ho2, oldD_def, decide_eq_false k1, decide_eq_false k2, decide_eq_true k3, decide_eq_false k4, -decide_eq_true_eq, -decide_eq_false_iff_not]
                exact hs
            · simp (maxSteps := 2000000) +contextual [e0, e5, e6, e8, e9, h4, oldD_length, ho2, oldD_def, decide_eq_false k1, decide_eq_false k2, decide_eq_false k3, -decide_eq_true_eq, -decide_eq_false_iff_not]
              refine hdraw_part σ hs (by kernel_rfl) ?_
              simp (maxSteps := 2000000) +contextual [e0, e5, e6, e8, e9, h4, oldD_length, ho2, oldD_def, -decide_eq_true_eq, -decide_eq_false_iff_not]
              have hpl : pre.length = i := by rw [hpre]; simp; omega
              refine gG.appendT hs [o] (by rw [List.map_singleton, oldD_def]) rfl (by simp; omega) (by simp only [List.length_singleton]; omega) ?_
              intro out tok' s' hout q1 q2 q3 q4
              simp (maxSteps := 2000000) +contextual [e0, e5, e6, e8, e9, h4, -decide_eq_true_eq, -decide_eq_false_iff_not]
              exact ⟨q1, n - 1, by omega, s', SLe.refl _, i + 1, by omega, out, tok', ⟨rfl, rfl⟩, by rw [wrap_i64] <;> omega, q4, q1, by show out = _; rw [hout, hpre, List.take_add_one, ho]; rfl⟩
      · have hio : os.take i = os := List.take_of_length_le (by omega)
        rw [hio] at hpre
        rw [hpre] at e8
        have hosl : os.length ≤ 30 := by omega
        simp (maxSteps := 2000000) +contextual [e0, e5, e6, e8, e9, h4, -decide_eq_true_eq, -decide_eq_false_iff_not]
        refine c_mof os ws t0 .ro (by omega) (by omega) _ _ ?_
        unfold mofD
        simp (maxSteps := 2000000) +contextual [e0, e5, e6, e8, e9, -decide_eq_true_eq, -decide_eq_false_iff_not]
        intro b10 hb10
        refine c_as _ ws .ro (Nat.lt_succ_self _) (by omega) _ _ ?_
        simp (maxSteps := 2000000) +contextual [e0, e5, e6, e8, e9, -decide_eq_true_eq, -decide_eq_false_iff_not]
        refine c_rof16 os ws tok .ro (by omega) (by omega) _ _ ?_
        unfold refD
        obtain ⟨m1, m2, -⟩ := mof_len os ws
        generalize mof os ws = M at *
        simp (maxSteps := 2000000) +contextual [e0, e5, e6, e8, e9, -decide_eq_true_eq, -decide_eq_false_iff_not]
        refine c_ints_same M.take .ro .ro (by omega) _ _ ?_
        simp (maxSteps := 2000000) +contextual [e0, e5, e6, e8, e9, -decide_eq_true_eq, -decide_eq_false_iff_not]
        refine c_intsN M.kept .ro .ro (by omega) _ _ ?_
        simp (maxSteps := 2000000) +contextual [e0, e5, e6, e8, e9, -decide_eq_true_eq, -decide_eq_false_iff_not]
        refine c_intsN M.left .ro .ro (by omega) _ _ ?_
        simp (maxSteps := 2000000) +contextual [e0, e5, e6, e8, e9, -decide_eq_true_eq, -decide_eq_false_iff_not]
        exact hs.put (hs.none hb10) _
  · rw [if_neg hok]
    simp (maxSteps := 2000000) +contextual [-decide_eq_true_eq, -decide_eq_false_iff_not]
end Go.HL
