/- The law WishBack. -/
import Derived.Test.YtdbbbhjajkobaaaGback
import Derived.Test.YtdbbbhjajkobaaaGbound
import Derived.Test.YtdbbbhjajkobaaaGvlaw
set_option linter.unusedVariables false
set_option linter.unusedSimpArgs false
set_option maxRecDepth 100000
set_option maxHeartbeats 1000000
namespace Go.HL
open Go.RowKit Go.Proofs

def up14l : List Ins := [⟨1, ⟨#[112]⟩, ⟨#[]⟩⟩, ⟨4, ⟨#[97]⟩, ⟨#[]⟩⟩, ⟨2, ⟨#[]⟩, ⟨#[]⟩⟩]
def up14w : List Want := [.mk 1 ⟨#[112]⟩ ⟨#[]⟩ ⟨#[]⟩ [] [.mk 2 ⟨#[]⟩ ⟨#[]⟩ ⟨#[97]⟩ [] []]]
theorem up14_a : chkP up14l = 0 := by decide +kernel
theorem up14_w : (someP up14l).1 = up14w := by rfl
theorem up14_c : cntL up14w = 2 := by decide +kernel
theorem up14_e : eqL up14w up14w = true := eqL_refl 10 up14w (by decide +kernel)
theorem c_up14 : Ret Try.prog 47 [] (.bool true) := by
  refine Ret.of fun σ => ?_
  refine HCalls.start mixed false _ _ (fn := Try.f47) (by kernel_rfl) rfl (by kernel_rfl) rfl (by kernel_rfl) (by kernel_rfl) ?_
  simp (maxSteps := 2000000) +contextual [-decide_eq_true_eq, -decide_eq_false_iff_not]
  refine c_wof up14l .full ⟨by decide, fun x hx => by simp [up14l] at hx; rcases hx with rfl | rfl | rfl <;> exact ⟨by decide, by decide⟩⟩ _ _ ?_
  unfold ofD
  rw [if_pos up14_a, up14_w]
  simp (maxSteps := 2000000) +contextual [-decide_eq_true_eq, -decide_eq_false_iff_not]
  refine c_wof [⟨2, ⟨#[]⟩, ⟨#[]⟩⟩] .full ⟨by decide, fun x hx => by simp at hx; subst hx; exact ⟨by decide, by decide⟩⟩ _ _ ?_
  unfold ofD
  rw [if_neg (by rw [up13_a]; decide), up13_a]
  have hl : up14w.length = 1 := rfl
  have hw0 : wantD (up14w[0]'(by decide)) = [D.int .i64 1, .str ⟨#[112]⟩, .str ⟨#[]⟩, .str ⟨#[]⟩, .list [] .ro, .list [wantD (.mk 2 ⟨#[]⟩ ⟨#[]⟩ ⟨#[97]⟩ [] [])] .ro] := rfl
  simp (maxSteps := 2000000) +contextual [errD, hl, wantD_length, hw0, -decide_eq_true_eq, -decide_eq_false_iff_not]
  refine ⟨cmp_code, ?_⟩
  refine c_count 10 up14w .ro (by decide +kernel) (by decide +kernel) _ _ ?_
  rw [up14_c]
  simp (maxSteps := 2000000) +contextual [-decide_eq_true_eq, -decide_eq_false_iff_not]
  refine c_sameL 10 up14w up14w .ro .ro (by decide +kernel) (by decide +kernel) _ _ ?_
  rw [up14_e]
  simp (maxSteps := 2000000) +contextual [-decide_eq_true_eq, -decide_eq_false_iff_not]
theorem c_lawBack14 (l : List Ins) (t0 : Tok) : Ret Try.prog 14 [.list (l.map insD) t0] (.bool true) := by
  refine Ret.of fun σ => ?_
  refine HCalls.start mixed false _ _ (fn := Try.f14) (by kernel_rfl) rfl (by kernel_rfl) rfl (by kernel_rfl) (by kernel_rfl) ?_
  simp (maxSteps := 2000000) +contextual [-decide_eq_true_eq, -decide_eq_false_iff_not]
  refine c_up14 _ _ ?_
  simp (maxSteps := 2000000) +contextual [-decide_eq_true_eq, -decide_eq_false_iff_not]
  refine c_few12 l t0 _ _ ?_
  cases hfew : fewI l with
  | false => simp (maxSteps := 2000000) +contextual [-decide_eq_true_eq, -decide_eq_false_iff_not]
  | true =>
    have hf := fewI_fit hfew
    have hl := (fewI_fits hfew).1
    simp (maxSteps := 2000000) +contextual [-decide_eq_true_eq, -decide_eq_false_iff_not]
    refine c_wof l t0 hf _ _ ?_
    unfold ofD
    by_cases h : chkP l = 0
    · have hsz := someP_sz l
      have hb := blk_of h
      rw [if_pos h]
      generalize (someP l).1 = ws at *
      have hback := blk_back hb
      have hcnt := blk_cnt hb
      simp (maxSteps := 2000000) +contextual [-decide_eq_true_eq, -decide_eq_false_iff_not]
      refine hloop_fix (fun n e => ∃ i : Nat, i + n = l.length ∧ e 0 = .list (l.map insD) t0 ∧ e 3 = .bool true ∧ e 4 = .list (ws.map wantD) .ro ∧ e 6 = .int .i64 (((l.take i).filter makesI).length) ∧ e 7 = .int .i64 i) l.length ?_ ?_
      · exact ⟨0, by simp⟩
      · rintro n e ⟨i, hi, e0, e3, e4, e6, e7⟩
        have hle : ((l.take i).filter makesI).length ≤ i := Nat.le_trans (List.length_filter_le _ _) (by simp; omega)
        by_cases h4 : i < l.length
        · obtain ⟨x, hx, hx2⟩ : ∃ x, l[i]? = some x ∧ l[i] = x := ⟨_, List.getElem?_eq_getElem h4, rfl⟩
          have hn : ((l.take (i + 1)).filter makesI).length = ((l.take i).filter makesI).length + if makesI x then 1 else 0 := by
            rw [take_next hx, List.filter_append, List.length_append]
            cases hm : makesI x <;> simp [hm]
          have fin : ∀ v : Int, v = (((l.take (i + 1)).filter makesI).length : Nat) → ∃ m, m < n ∧ ∃ i_1 : Nat, i_1 + m = l.length ∧ v = (((l.take i_1).filter makesI).length : Nat) ∧ IntKind.i64.wrap (↑i + 1) = ↑i_1 := fun v hv =>
            ⟨n - 1, by omega, i + 1, by omega, hv, by rw [wrap_i64] <;> omega⟩
          generalize hk : ((l.take i).filter makesI).length = k at *
          have hw : IntKind.i64.wrap ((k : Int) + 1) = ((k + 1 : Nat) : Int) := by rw [wrap_i64] <;> omega
          by_cases h1 : x.op = 1
          · have : makesI x = true := by simp [makesI, h1]
            rw [this] at hn
            simp (maxSteps := 2000000) +contextual [e0, e3, e4, e6, e7, insD_length, insD_def, h4, hx, hx2, h1, hw, -decide_eq_true_eq, -decide_eq_false_iff_not]
            exact fin _ (by rw [hn]; rfl)
          · by_cases h3 : x.op = 3
            · have : makesI x = true := by simp [makesI, h3]
              rw [this] at hn
              simp (maxSteps := 2000000) +contextual [e0, e3, e4, e6, e7, insD_length, insD_def, h4, hx, hx2, h3, hw, -decide_eq_true_eq, -decide_eq_false_iff_not]
              exact fin _ (by rw [hn]; rfl)
            · by_cases h5 : x.op = 4
              · have : makesI x = true := by simp [makesI, h5]
                rw [this] at hn
                simp (maxSteps := 2000000) +contextual [e0, e3, e4, e6, e7, insD_length, insD_def, h4, hx, hx2, h5, hw, -decide_eq_true_eq, -decide_eq_false_iff_not]
                exact fin _ (by rw [hn]; rfl)
              · have : makesI x = false := by simp [makesI, h1, h3, h5]
                rw [this] at hn
                simp (maxSteps := 2000000) +contextual [e0, e3, e4, e6, e7, insD_length, insD_def, h4, hx, hx2, h1, h3, h5, -decide_eq_true_eq, -decide_eq_false_iff_not]
                exact fin _ (by rw [hn]; simp)
        · rw [List.take_of_length_le (by omega), ← hcnt] at e6
          simp (maxSteps := 2000000) +contextual [e0, e3, e4, e6, e7, h4, -decide_eq_true_eq, -decide_eq_false_iff_not]
          refine c_backL _ ws .ro (Nat.lt_succ_self _) (by omega) _ _ ?_
          rw [hback]
          simp (maxSteps := 2000000) +contextual [e0, e3, e4, e6, e7, -decide_eq_true_eq, -decide_eq_false_iff_not]
          refine c_rsame l l _ _ (by omega) _ _ ?_
          simp (maxSteps := 2000000) +contextual [e0, e3, e4, e6, e7, -decide_eq_true_eq, -decide_eq_false_iff_not]
          refine c_count _ ws .ro (Nat.lt_succ_self _) (by omega) _ _ ?_
          simp (maxSteps := 2000000) +contextual [e0, e3, e4, e6, e7, -decide_eq_true_eq, -decide_eq_false_iff_not]
    · have he : errD (chkP l) = .lit (.iface 39 (.int .i64 (chkP l))) := by simp [errD, h]
      rw [if_neg h, he]
      simp (maxSteps := 2000000) +contextual [-decide_eq_true_eq, -decide_eq_false_iff_not]
end Go.HL
