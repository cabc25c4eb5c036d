/- The laws of which old node becomes which: what both call. -/
import Derived.Test.YtdbbbhjajkobaabGmref
import Derived.Test.YtdbbbhjajkobaabGlawb
set_option linter.unusedVariables false
set_option linter.unusedSimpArgs false
set_option maxRecDepth 100000
set_option maxHeartbeats 4000000
namespace Go.HL
open Go.RowKit Go.Proofs

theorem c_ints (l m : List Int) (t1 t2 : Tok) (hl : l.length ≤ 1048576) : Ret Try.prog 42 [.list (l.map intD) t1, .list (m.map intD) t2] (.bool (decide (l = m))) := by
  refine Ret.of fun σ => ?_
  refine HCalls.start mixed false _ _ (fn := Try.f42) (by kernel_rfl) rfl (by kernel_rfl) rfl (by kernel_rfl) (by kernel_rfl) ?_
  simp (maxSteps := 2000000) +contextual [-decide_eq_true_eq, -decide_eq_false_iff_not]
  refine ⟨fun h1 => ?_, fun h1 => ?_⟩
  · intro h; subst h; simp at h1
  · have hlm : l.length = m.length := by have := dec_t h1; omega
    refine hloop_fix (fun n e => ∃ i : Nat, i + n = l.length ∧ e 0 = .list (l.map intD) t1 ∧ e 1 = .list (m.map intD) t2 ∧ e 5 = .int .i64 i ∧ ∀ j, j < i → l[j]? = m[j]?) l.length ?_ ?_
    · exact ⟨0, by simp⟩
    · rintro n e ⟨i, hi, e0, e1, e5, hok⟩
      simp (maxSteps := 2000000) +contextual [e0, e1, e5, -decide_eq_true_eq, -decide_eq_false_iff_not]
      refine ⟨fun h4 => hdraw_intro (by kernel_rfl) ?_, fun h4 => ?_⟩
      · have h4 := dec_t h4
        simp (maxSteps := 2000000) +contextual [e0, e1, e5, intD_length, intD_def, -decide_eq_true_eq, -decide_eq_false_iff_not]
        refine ⟨h4, fun x hx => ⟨by omega, fun y hy => ⟨fun h5 h => ?_, fun h5 => ⟨n - 1, by omega, i + 1, by omega, by rw [wrap_i64] <;> omega, fun j hj => ?_⟩⟩⟩⟩
        · subst h
          rw [hx] at hy; injection hy with hy; subst hy
          simp at h5
        · by_cases hji : j = i
          · subst hji
            rw [hx, hy]
            have : x = y := by simpa using h5
            rw [this]
          · exact hok j (by omega)
      · have h4 := dec_f h4
        apply List.ext_getElem?
        intro j
        by_cases hj : j < i
        · exact hok j hj
        · rw [List.getElem?_eq_none (by omega), List.getElem?_eq_none (by omega)]
theorem natD_int (l : List Nat) : l.map natD = (l.map fun n : Nat => (n : Int)).map intD := by rw [List.map_map]; rfl
theorem c_ints_same (l : List Int) (t1 t2 : Tok) (hl : l.length ≤ 1048576) : Ret Try.prog 42 [.list (l.map intD) t1, .list (l.map intD) t2] (.bool true) := by
  have := c_ints l l t1 t2 hl
  simpa using this
theorem c_intsN (l : List Nat) (t1 t2 : Tok) (hl : l.length ≤ 1048576) : Ret Try.prog 42 [.list (l.map natD) t1, .list (l.map natD) t2] (.bool true) := by
  rw [natD_int]; exact c_ints_same _ _ _ (by simpa using hl)
theorem mof_len (os : List Old) (ws : List Want) : (mof os ws).take.length = ws.length ∧ (mof os ws).left.length + (mof os ws).kept.length ≤ os.length ∧ Srt os.length (mof os ws).left := by
  have : ∀ (ws : List Want) (m : MSt), Srt os.length m.left → m.left.length + m.kept.length ≤ os.length → (ws.foldl (mstep os) m).take.length = m.take.length + ws.length ∧ (ws.foldl (mstep os) m).left.length + (ws.foldl (mstep os) m).kept.length ≤ os.length ∧ Srt os.length (ws.foldl (mstep os) m).left := by
    intro ws
    induction ws with
    | nil => intro m h1 h2; exact ⟨rfl, h2, h1⟩
    | cons w ws ih =>
      intro m h1 h2
      have hs := mstep_srt os m w h1
      have hg := mstep_g os m w h1
      simp only at hg
      have hle : (if 0 ≤ gAt os w m.left then m.left.erase (gAt os w m.left).toNat else m.left).length ≤ m.left.length := by
        split
        · exact List.length_erase_le
        · exact Nat.le_refl _
      have ht : (mstep os m w).take.length = m.take.length + 1 ∧ (mstep os m w).left.length + (mstep os m w).kept.length ≤ os.length := by
        rw [hg]
        split
        · simp; omega
        · simp; omega
      obtain ⟨r1, r2, r3⟩ := ih (mstep os m w) hs ht.2
      exact ⟨by rw [List.foldl_cons, r1, ht.1]; simp; omega, r2, r3⟩
  have := this ws ⟨List.range os.length, [], []⟩ (Srt.all _) (by simp)
  simpa [mof] using this

def upO : List Old := [⟨⟨#[112]⟩, ⟨#[]⟩⟩, ⟨⟨#[]⟩, ⟨#[]⟩⟩]
def upW : List Want := [.mk 2 ⟨#[]⟩ ⟨#[]⟩ ⟨#[]⟩ [] [], .mk 1 ⟨#[112]⟩ ⟨#[]⟩ ⟨#[]⟩ [] []]
theorem up16_mof : (mof upO upW).take = [-1, 0] ∧ (mof upO upW).kept = [] ∧ (mof upO upW).left = [1] := by decide +kernel
end Go.HL
