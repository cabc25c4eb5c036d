/- Bounds: the laws BoundTells and BoundMore. -/
import Derived.Test.YtdbbbhjajkobaabGwish
import Derived.Test.YtdbbbhjajkobaabGlawk
set_option linter.unusedVariables false
set_option linter.unusedSimpArgs false
set_option maxRecDepth 100000
set_option maxHeartbeats 1000000
namespace Go.HL
open Go.RowKit Go.Proofs

theorem wantD_get (w : Want) (j : Nat) : (wantD w)[j]? = [D.int .i64 w.kind, .str w.tag, .str w.key, .str w.text, .list (w.attrs.map attrD) .ro, .list (w.kids.map wantD) .ro][j]? := by rw [wantD_eq]
/-- The document's: the same, told alike. -/
theorem c_as : ∀ (m : Nat) (l : List Want) (t0 : Tok), szL l < m → szL l ≤ 1048576 → Ret Try.prog 16 [.list (l.map wantD) t0] (.list (l.map wantD) .ro) := by
  intro m
  induction m with
  | zero => intro l t0 h; omega
  | succ m ih =>
    intro l t0 hm hsz
    have hl := sz_len l
    refine RetL.ro (RetL.of fun σ => ?_)
    refine HCalls.start mixed false _ _ (fn := Try.f16) (by kernel_rfl) rfl (by kernel_rfl) rfl (by kernel_rfl) (by kernel_rfl) ?_
    simp (maxSteps := 2000000) +contextual [-decide_eq_true_eq, -decide_eq_false_iff_not]
    refine hloop_intro (fun n e s => ∃ (i : Nat) (tok : Tok) (out : List Want), i + n = l.length ∧ e 0 = .list (l.map wantD) t0 ∧ e 3 = .list (out.map wantD) tok ∧ e 4 = .int .i64 i ∧ Gr 6 σ (out.map wantD) tok s ∧ Sm (l.take i) out) l.length ?_ ?_
    · exact ⟨0, .nil, [], by simp, by simp, by simp, by simp, .nil, rfl⟩
    · rintro n e s ⟨i, tok, out, hi, e0, e3, e4, hg, ho⟩
      have ho : l.take i = out := ho
      have hol : out.length = i := by rw [← ho]; simp; omega
      by_cases h4 : i < l.length
      · obtain ⟨w, hw, hw2⟩ : ∃ w, l[i]? = some w ∧ l[i] = w := ⟨_, List.getElem?_eq_getElem h4, rfl⟩
        have hszw := sz_mem (List.mem_of_getElem? hw)
        have hsw := szW_eq w
        have hn := take_next hw
        simp (maxSteps := 2000000) +contextual [e0, e3, e4, h4, -decide_eq_true_eq, -decide_eq_false_iff_not]
        refine hdraw_cut 34 s (SLe.refl _) (by kernel_rfl) (by kernel_rfl) ?_
        simp (maxSteps := 2000000) +contextual [e0, e3, e4, wantD_length, wantD_eq w, h4, hw, hw2, -decide_eq_true_eq, -decide_eq_false_iff_not]
        refine ih w.kids .ro (by omega) (by omega) _ _ ?_
        simp (maxSteps := 2000000) +contextual [e0, e3, e4, wantD_length, wantD_eq w, h4, hw, hw2, -decide_eq_true_eq, -decide_eq_false_iff_not]
        refine ⟨fun _ => none, (fun _ _ h => by cases h), ?_⟩
        rw [← wantD_eq w]
        refine hg.appendT (SLe.refl s) [w] ?_ ?_ ?_ ?_ ?_
        · rfl
        · rfl
        · (try simp); omega
        · (try simp); omega
        intro out1 tok1 s1 s2 ho1 hs1 hk1 hg1
        simp (maxSteps := 2000000) +contextual [e0, e3, e4, -decide_eq_true_eq, -decide_eq_false_iff_not]
        refine ⟨by (intro xx oo hh; simp only [Store.set] at hh ⊢; grind), n - 1, by omega, s2, hs1, i + 1, by omega, tok1, out1, ⟨rfl, rfl⟩, by rw [wrap_i64] <;> omega, hg1, ?_⟩
        show l.take (i + 1) = out1
        rw [hn, ho1, ho]
      · simp (maxSteps := 2000000) +contextual [e0, e3, e4, h4, -decide_eq_true_eq, -decide_eq_false_iff_not]
        rw [List.take_of_length_le (by omega)] at ho
        exact ⟨hg.le, by rw [ho]⟩
end Go.HL
