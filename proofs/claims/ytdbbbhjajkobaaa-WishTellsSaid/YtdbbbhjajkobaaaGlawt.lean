/- The law WishTells. -/
import Derived.Test.YtdbbbhjajkobaaaGwref
import Derived.Test.YtdbbbhjajkobaaaGlawb
set_option linter.unusedVariables false
set_option linter.unusedSimpArgs false
set_option maxRecDepth 100000
set_option maxHeartbeats 1000000
namespace Go.HL
open Go.RowKit Go.Proofs

theorem c_lawTells14 (l m : List Ins) (t0 t1 : Tok) : Ret Try.prog 11 [.list (l.map insD) t0, .list (m.map insD) t1] (.bool true) := by
  refine Ret.of fun σ => ?_
  refine HCalls.start mixed false _ _ (fn := Try.f11) (by kernel_rfl) rfl (by kernel_rfl) rfl (by kernel_rfl) (by kernel_rfl) ?_
  simp (maxSteps := 2000000) +contextual [-decide_eq_true_eq, -decide_eq_false_iff_not]
  refine c_up14 _ _ ?_
  simp (maxSteps := 2000000) +contextual [-decide_eq_true_eq, -decide_eq_false_iff_not]
  refine c_few12 l t0 _ _ ?_
  cases hfew : fewI l with
  | false => simp (maxSteps := 2000000) +contextual [-decide_eq_true_eq, -decide_eq_false_iff_not]
  | true =>
    simp (maxSteps := 2000000) +contextual [-decide_eq_true_eq, -decide_eq_false_iff_not]
    refine c_few12 m t1 _ _ ?_
    cases hfm : fewI m with
    | false => simp (maxSteps := 2000000) +contextual [-decide_eq_true_eq, -decide_eq_false_iff_not]
    | true =>
      have hf := fewI_fit hfew
      have hl := (fewI_fits hfew).1
      have hf2 := fewI_fit hfm
      have hl2 := (fewI_fits hfm).1
      have e0 : errD 0 = .lit .nilIface := by simp [errD]
      simp (maxSteps := 2000000) +contextual [-decide_eq_true_eq, -decide_eq_false_iff_not]
      refine c_wof l t0 hf _ _ ?_
      unfold ofD
      by_cases h : chkP l = 0
      · have hsz := someP_sz l
        have hb := blk_of h
        have hrc : checkR l = 0 := by rw [← check_same]; exact h
        rw [if_pos h]
        generalize (someP l).1 = ws at *
        have hrf := eqL_refl _ ws (Nat.lt_succ_self _)
        simp (maxSteps := 2000000) +contextual [-decide_eq_true_eq, -decide_eq_false_iff_not]
        refine c_rcheck l t0 hf _ _ ?_
        rw [hrc]
        simp (maxSteps := 2000000) +contextual [-decide_eq_true_eq, -decide_eq_false_iff_not]
        rw [← e0]
        refine c_err 0 (by omega) _ _ ?_
        simp (maxSteps := 2000000) +contextual [-decide_eq_true_eq, -decide_eq_false_iff_not]
        refine c_rof _ l ws t0 (Nat.le_refl _) hb hf _ _ ?_
        simp (maxSteps := 2000000) +contextual [-decide_eq_true_eq, -decide_eq_false_iff_not]
        refine c_as _ ws .ro (Nat.lt_succ_self _) (by omega) _ _ ?_
        simp (maxSteps := 2000000) +contextual [-decide_eq_true_eq, -decide_eq_false_iff_not]
        refine c_alike _ ws ws .ro .ro (Nat.lt_succ_self _) (by omega) _ _ ?_
        rw [hrf]
        simp (maxSteps := 2000000) +contextual [-decide_eq_true_eq, -decide_eq_false_iff_not]
        refine c_count _ ws .ro (Nat.lt_succ_self _) (by omega) _ _ ?_
        simp (maxSteps := 2000000) +contextual [-decide_eq_true_eq, -decide_eq_false_iff_not]
        refine c_rcount _ ws .ro (Nat.lt_succ_self _) (by omega) _ _ ?_
        simp (maxSteps := 2000000) +contextual [-decide_eq_true_eq, -decide_eq_false_iff_not]
        refine c_sameL _ ws ws .ro .ro (Nat.lt_succ_self _) (by omega) _ _ ?_
        rw [hrf]
        simp (maxSteps := 2000000) +contextual [-decide_eq_true_eq, -decide_eq_false_iff_not]
        refine c_wof m t1 hf2 _ _ ?_
        unfold ofD
        by_cases h2 : chkP m = 0
        · have hsz2 := someP_sz m
          have hb2 := blk_of h2
          rw [if_pos h2]
          generalize (someP m).1 = ws2 at *
          simp (maxSteps := 2000000) +contextual [-decide_eq_true_eq, -decide_eq_false_iff_not]
          refine c_sameL _ ws ws2 .ro .ro (Nat.lt_succ_self _) (by omega) _ _ ?_
          simp (maxSteps := 2000000) +contextual [-decide_eq_true_eq, -decide_eq_false_iff_not]
          refine c_rof _ m ws2 t1 (Nat.le_refl _) hb2 hf2 _ _ ?_
          simp (maxSteps := 2000000) +contextual [-decide_eq_true_eq, -decide_eq_false_iff_not]
          refine c_alike _ ws ws2 .ro .ro (Nat.lt_succ_self _) (by omega) _ _ ?_
          simp (maxSteps := 2000000) +contextual [-decide_eq_true_eq, -decide_eq_false_iff_not]
        · have he : errD (chkP m) = .lit (.iface 39 (.int .i64 (chkP m))) := by simp [errD, h2]
          rw [if_neg h2, he]
          simp (maxSteps := 2000000) +contextual [-decide_eq_true_eq, -decide_eq_false_iff_not]
      · have hrc : checkR l = chkP l := by rw [← check_same]
        rw [if_neg h]
        simp (maxSteps := 2000000) +contextual [-decide_eq_true_eq, -decide_eq_false_iff_not]
        refine c_rcheck l t0 hf _ _ ?_
        rw [hrc]
        simp (maxSteps := 2000000) +contextual [-decide_eq_true_eq, -decide_eq_false_iff_not]
        refine c_err _ (check_le l) _ _ ?_
        simp (maxSteps := 2000000) +contextual [-decide_eq_true_eq, -decide_eq_false_iff_not]
        intro h3
        exact absurd (dec_t h3) h
end Go.HL
