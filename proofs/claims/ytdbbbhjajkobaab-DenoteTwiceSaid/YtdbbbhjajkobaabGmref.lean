/- Which of the old nodes becomes which: the document's answer. -/
import Derived.Test.YtdbbbhjajkobaabGmatof
import Derived.Test.YtdbbbhjajkobaabH3
set_option linter.unusedVariables false
set_option linter.unusedSimpArgs false
set_option maxRecDepth 100000
set_option maxHeartbeats 8000000
namespace Go.HL
open Go.RowKit Go.Proofs

/-- Flags, place by place. -/
def fl (n : Nat) (p : Nat → Bool) : List D := (List.range n).map fun k => D.bool (p k)
@[simp] theorem fl_len (n : Nat) (p : Nat → Bool) : (fl n p).length = n := by simp [fl]
theorem fl_get {n : Nat} (p : Nat → Bool) {k : Nat} (h : k < n) : (fl n p)[k]? = some (.bool (p k)) := by simp [fl, h]
theorem fl_at {n : Nat} (p : Nat → Bool) {k : Nat} (h : k < n) : List.take 1 (List.drop k (fl n p)) = [.bool (p k)] := by
  have hk : k < (fl n p).length := by simpa using h
  have := fl_get p h
  rw [List.getElem?_eq_getElem hk] at this
  injection this with this
  rw [List.drop_eq_getElem_cons hk, this]; rfl
theorem fl_congr {n : Nat} {p q : Nat → Bool} (h : ∀ k, k < n → p k = q k) : fl n p = fl n q := by
  unfold fl
  refine List.map_congr_left fun k hk => ?_
  rw [h k (by simpa using hk)]
theorem spl_one (ds : List D) (o : Nat) (c : D) (h : o < ds.length) : spl ds o [c] = ds.set o c := by
  unfold spl
  rw [List.set_eq_take_append_cons_drop, if_pos h]
  simp
theorem fl_set {n : Nat} (p : Nat → Bool) {k : Nat} (h : k < n) (b : Bool) : spl (fl n p) k [.bool b] = fl n fun x => if x = k then b else p x := by
  rw [spl_one _ _ _ (by simpa using h)]
  apply List.ext_getElem?
  intro i
  by_cases hi : i < n
  · by_cases hik : k = i
    · subst hik; rw [List.getElem?_set_self (by simpa using h), fl_get _ h]; simp
    · rw [List.getElem?_set_ne hik, fl_get _ hi, fl_get _ hi, if_neg (Ne.symm hik)]
  · rw [List.getElem?_eq_none (by simp; omega), List.getElem?_eq_none (by simp; omega)]
theorem fl_zero (n : Nat) : zrep n [D.lit (Value.bool false)] = fl n fun _ => false := by
  induction n with
  | zero => rfl
  | succ n ih =>
    apply List.ext_getElem?
    intro i
    by_cases hi : i < n + 1
    · rw [fl_get _ hi, zrep_get _ _ _ (by simpa using hi)]; simp [Nat.mod_one]
    · rw [List.getElem?_eq_none (by simp [zrep_len]; omega), List.getElem?_eq_none (by simp; omega)]
/-- Is it among these? -/
def inL (l : List Nat) (k : Nat) : Bool := decide (k ∈ l)
theorem inL_range {n k : Nat} (h : k < n) : inL (List.range n) k = true := by simp [inL, h]
/-- The walk from a place on. -/
def rFk (os : List Old) (w : Want) (l : List Nat) (k : Nat) (f : Bool) : Int := rF os w l ((List.range os.length).drop k) f
theorem rFk_zero (os : List Old) (w : Want) {l : List Nat} (h : Srt os.length l) : rFk os w l 0 true = gAt os w l := by unfold rFk; rw [List.drop_zero, rF_srt os w h]
theorem rFk_end (os : List Old) (w : Want) (l : List Nat) (f : Bool) : rFk os w l os.length f = -1 := by
  unfold rFk; rw [List.drop_eq_nil_of_le (by simp)]; cases f <;> rfl
theorem rFk_step (os : List Old) (w : Want) (l : List Nat) {k : Nat} (h : k < os.length) (f : Bool) : rFk os w l k f = if inL l k then (if takesP w (oAt os k) f then (k : Int) else rFk os w l (k + 1) false) else rFk os w l (k + 1) f := by
  unfold rFk
  rw [List.drop_eq_getElem_cons (by simpa using h)]
  simp only [List.getElem_range, rF, inL, decide_eq_true_eq]
@[simp] theorem oldD_take (o : Old) : List.take 2 (oldD o) = oldD o := rfl
def refD (os : List Old) (ws : List Want) : D := .tup [.list ((mof os ws).take.map intD) .ro, .list ((mof os ws).kept.map natD) .ro, .list ((mof os ws).left.map natD) .ro]
theorem Wk.tup3 {a b c a' b' c' : D} (h1 : Wk a a') (h2 : Wk b b') (h3 : Wk c c') : Wk (.tup [a, b, c]) (.tup [a', b', c']) := by
  refine .tup _ _ rfl fun i d d' hd hd' => ?_
  match i with
  | 0 => simp at hd hd'; subst hd hd'; exact h1
  | 1 => simp at hd hd'; subst hd hd'; exact h2
  | 2 => simp at hd hd'; subst hd hd'; exact h3
  | n + 3 => simp at hd
theorem c_rof16 (os : List Old) (ws : List Want) (t0 t1 : Tok) (hos : os.length ≤ 1048576) (hws : ws.length ≤ 1048576) : Ret Try.prog 70 [.list (os.map oldD) t0, .list (ws.map wantD) t1] (refD os ws) := by
  refine Ret.weak fun σ => ?_
  refine HCalls.start mixed false _ _ (fn := Try.f70) (by kernel_rfl) rfl (by kernel_rfl) rfl (by kernel_rfl) (by kernel_rfl) ?_
  simp (maxSteps := 2000000) +contextual [-decide_eq_true_eq, -decide_eq_false_iff_not]
  refine ⟨by omega, fun b7 hb7 => ?_⟩
  obtain ⟨N, hN⟩ : ∃ N, N = os.length := ⟨_, rfl⟩
  rw [fl_zero]
  refine hloop_intro (fun n e s => ∃ i : Nat, i + n = os.length ∧ e 0 = .list (os.map oldD) t0 ∧ e 1 = .list (ws.map wantD) t1 ∧ e 7 = .lit (.slice (some ⟨b7, 0, none⟩) os.length os.length) ∧ e 8 = .int .i64 i ∧ s = σ.set b7 (.cells (fl os.length fun k => decide (k < i)))) os.length ?_ ?_
  · refine ⟨0, by simp, ?_⟩
    simp (maxSteps := 2000000) +contextual [-decide_eq_true_eq, -decide_eq_false_iff_not]
  · rintro n e s ⟨i, hi, e0, e1, e7, e8, rfl⟩
    by_cases h4 : i < os.length
    · simp (maxSteps := 2000000) +contextual [e0, e1, e7, e8, h4, -decide_eq_true_eq, -decide_eq_false_iff_not]
      refine ⟨by omega, n - 1, by omega, _, SLe.refl _, i + 1, by omega, by rw [wrap_i64] <;> omega, ?_⟩
      rw [fl_set _ h4]
      congr 2
      refine fl_congr fun k hk => ?_
      by_cases hki : k = i <;> simp [hki]; omega
    · have hi2 : i = os.length := by omega
      subst hi2
      simp (maxSteps := 2000000) +contextual [e0, e1, e7, e8, h4, -decide_eq_true_eq, -decide_eq_false_iff_not]
      have hfl : (fl os.length fun k => decide (k < os.length)) = fl os.length (inL (List.range os.length)) := fl_congr fun k hk => by simp [inL]
      rw [hfl]
      have hS0 : SLe σ (σ.set b7 (.cells (fl os.length (inL (List.range os.length))))) := (SLe.refl σ).set hb7 _
      refine hloop_intro (fun n e s => ∃ (i : Nat) (m : MSt) (tT tK : Tok), i + n = ws.length ∧ e 0 = .list (os.map oldD) t0 ∧ e 1 = .list (ws.map wantD) t1 ∧ e 7 = .lit (.slice (some ⟨b7, 0, none⟩) os.length os.length) ∧ e 9 = .list (m.take.map intD) tT ∧ e 10 = .list (m.kept.map natD) tK ∧ e 11 = .int .i64 i ∧
        s b7 = some (.cells (fl os.length (inL m.left))) ∧ GrV 1 σ (m.take.map intD) tT s ∧ GrV 1 σ (m.kept.map natD) tK s ∧ tT.blk ≠ some b7 ∧ tK.blk ≠ some b7 ∧ (∀ b, tT.blk = some b → tK.blk ≠ some b) ∧ SLe σ s ∧
        Srt os.length m.left ∧ Sm (mof os ws) ((ws.drop i).foldl (mstep os) m) ∧ m.take.length = i ∧ m.left.length + m.kept.length ≤ os.length) ws.length ?_ ?_
      · refine ⟨0, ⟨List.range os.length, [], []⟩, .nil, .nil, by simp, ?_⟩
        simp (maxSteps := 2000000) +contextual [e0, e1, e7, -decide_eq_true_eq, -decide_eq_false_iff_not]
        exact ⟨.nil _, (SLe.refl σ).set hb7 _, Srt.all _, rfl⟩
      · rintro n e s ⟨i, m, tT, tK, hi, e0, e1, e7, e9, e10, e11, h7, gT, gK, nT, nK, nTK, hss, hsrt, hsm, htl, hlk⟩
        by_cases h4 : i < ws.length
        · obtain ⟨w, hw, hw2⟩ : ∃ w, ws[i]? = some w ∧ ws[i] = w := ⟨_, List.getElem?_eq_getElem h4, rfl⟩
          have hdrop : ws.drop i = w :: ws.drop (i + 1) := by rw [List.drop_eq_getElem_cons h4, hw2]
          rw [hdrop] at hsm
          have hsm : mof os ws = (ws.drop (i + 1)).foldl (mstep os) (mstep os m w) := hsm
          simp (maxSteps := 2000000) +contextual [e0, e1, e7, e9, e10, e11, h4, -decide_eq_true_eq, -decide_eq_false_iff_not]
          obtain ⟨g, hg⟩ : ∃ g, g = gAt os w m.left := ⟨_, rfl⟩
          refine hloop_cut 4 (fun e s' => s' = s ∧ e 0 = .list (os.map oldD) t0 ∧ e 1 = .list (ws.map wantD) t1 ∧ e 7 = .lit (.slice (some ⟨b7, 0, none⟩) os.length os.length) ∧ e 9 = .list (m.take.map intD) tT ∧ e 10 = .list (m.kept.map natD) tK ∧ e 11 = .int .i64 i ∧ e 12 = .int .i64 g) ?_ ?_
          · refine hloop_fix (fun n e => ∃ (k : Nat) (f : Bool) (r : Int), k + n = os.length ∧ e 0 = .list (os.map oldD) t0 ∧ e 1 = .list (ws.map wantD) t1 ∧ e 7 = .lit (.slice (some ⟨b7, 0, none⟩) os.length os.length) ∧ e 9 = .list (m.take.map intD) tT ∧ e 10 = .list (m.kept.map natD) tK ∧ e 11 = .int .i64 i ∧
              e 12 = .int .i64 r ∧ e 13 = .bool f ∧ e 14 = .int .i64 k ∧ ((r = -1 ∧ g = rFk os w m.left k f) ∨ (0 ≤ r ∧ r = g))) os.length ?_ ?_
            · refine ⟨0, true, -1, by simp, ?_⟩
              simp (maxSteps := 2000000) +contextual [e0, e1, e7, e9, e10, e11, -decide_eq_true_eq, -decide_eq_false_iff_not]
              rw [rFk_zero os w hsrt]; exact hg
            · rintro n1 e ⟨k, f, r, hk, e0, e1, e7, e9, e10, e11, e12, e13, e14, hr⟩
              by_cases hk4 : k < os.length
              · by_cases hr0 : r < 0
                · have hr : r = -1 ∧ g = rFk os w m.left k f := by rcases hr with h | h; exact h; omega
                  rw [rFk_step os w m.left hk4] at hr
                  simp (maxSteps := 2000000) +contextual [e0, e1, e7, e9, e10, e11, e12, e13, e14, hk4, decide_eq_true hr0, h7, fl_at _ hk4, -decide_eq_true_eq, -decide_eq_false_iff_not]
                  refine ⟨by omega, fun hin => ?_, fun hin => ?_⟩
                  · rw [hin] at hr
                    exact ⟨n1 - 1, by omega, k + 1, by omega, by rw [wrap_i64] <;> omega, .inl (by simpa using hr)⟩
                  · rw [hin] at hr
                    refine hdraw_intro (by kernel_rfl) ?_
                    have ho : os[k] = oAt os k := by rw [← oAt_def, List.getD_eq_getElem?_getD, List.getElem?_eq_getElem hk4]; rfl
                    simp (maxSteps := 2000000) +contextual [e0, e1, e7, e9, e10, e11, e12, e13, e14, hk4, h4, wantD_length, oldD_length, hw2, ho, -decide_eq_true_eq, -decide_eq_false_iff_not]
                    refine c_takes16 w _ f _ _ ?_
                    cases ht : takesP w (oAt os k) f with
                    | true =>
                      rw [ht] at hr
                      simp (maxSteps := 2000000) +contextual [e0, e1, e7, e9, e10, e11, e12, e13, e14, -decide_eq_true_eq, -decide_eq_false_iff_not]
                      exact ⟨n1 - 1, by omega, k + 1, by omega, by rw [wrap_i64] <;> omega, by simpa using hr.2.symm⟩
                    | false =>
                      rw [ht] at hr
                      simp (maxSteps := 2000000) +contextual [e0, e1, e7, e9, e10, e11, e12, e13, e14, -decide_eq_true_eq, -decide_eq_false_iff_not]
                      exact ⟨n1 - 1, by omega, k + 1, by omega, by rw [wrap_i64] <;> omega, .inl (by simpa using hr)⟩
                · simp (maxSteps := 2000000) +contextual [e0, e1, e7, e9, e10, e11, e12, e13, e14, hk4, decide_eq_false hr0, -decide_eq_true_eq, -decide_eq_false_iff_not]
                  rcases hr with h | h
                  · omega
                  · exact h.2
              · have hkn : k = os.length := by omega
                subst hkn
                rw [rFk_end] at hr
                simp (maxSteps := 2000000) +contextual [e0, e1, e7, e9, e10, e11, e12, e13, e14, hk4, -decide_eq_true_eq, -decide_eq_false_iff_not]
                rcases hr with h | h
                · rw [h.1, h.2]
                · exact h.2
          · rintro e s' ⟨rfl, e0, e1, e7, e9, e10, e11, e12⟩
            have hgm : (g = -1 ∧ mstep os m w = if w.kind = 4 then ⟨[], m.take ++ [g], m.kept ++ m.left⟩ else ⟨m.left, m.take ++ [g], m.kept⟩) ∨
                ∃ j : Nat, j ∈ m.left ∧ g = j ∧ mstep os m w = if w.kind = 4 then ⟨[], m.take ++ [g], m.kept ++ m.left.erase j⟩ else ⟨m.left.erase j, m.take ++ [g], m.kept⟩ := by
              have := mstep_g os m w hsrt
              simp only at this
              rw [← hg] at this
              rcases gAt_mem os w m.left with h | ⟨j, hj, h⟩
              · rw [← hg] at h; refine .inl ⟨h, ?_⟩; rw [this, h]; simp
              · rw [← hg] at h; refine .inr ⟨j, hj, h, ?_⟩; rw [this, h]; simp
            simp (maxSteps := 2000000) +contextual [e0, e1, e7, e9, e10, e11, e12, intD_length, -hcond_bool, -decide_eq_true_eq, -decide_eq_false_iff_not]
            refine hcond_cut (fun e s2 => ∃ L, Srt os.length L ∧ mstep os m w = (if w.kind = 4 then ⟨[], m.take ++ [g], m.kept ++ L⟩ else ⟨L, m.take ++ [g], m.kept⟩) ∧ L.length ≤ m.left.length ∧
              s2 b7 = some (.cells (fl os.length (inL L))) ∧ But (some b7) s' s2 ∧ e 0 = .list (os.map oldD) t0 ∧ e 1 = .list (ws.map wantD) t1 ∧ e 7 = .lit (.slice (some ⟨b7, 0, none⟩) os.length os.length) ∧ e 9 = .list (m.take.map intD) tT ∧ e 10 = .list (m.kept.map natD) tK ∧ e 11 = .int .i64 i ∧ e 12 = .int .i64 g) ?_ ?_
            · rcases hgm with ⟨h, hst⟩ | ⟨j, hj, h, hst⟩
              · simp (maxSteps := 2000000) +contextual [decide_eq_false (show ¬ 0 ≤ g by omega), e0, e1, e7, e9, e10, e11, e12, -decide_eq_true_eq, -decide_eq_false_iff_not]
                exact ⟨m.left, hsrt, hst, Nat.le_refl _, h7, But.refl _ _⟩
              · have hjl : j < os.length := hsrt.lt j hj
                simp (maxSteps := 2000000) +contextual [h, e0, e1, e7, e9, e10, e11, e12, h7, -decide_eq_true_eq, -decide_eq_false_iff_not]
                refine ⟨by omega, by omega, m.left.erase j, hsrt.erase j, by rw [← h]; exact hst, List.length_erase_le, ?_, But.set _⟩
                rw [fl_set _ hjl]
                refine fl_congr fun k hk => ?_
                by_cases hkj : k = j
                · subst hkj; simp [inL, hsrt.nodup.mem_erase_iff]
                · simp [inL, hkj, hsrt.nodup.mem_erase_iff]
            · rintro e s2 ⟨L, hsL, hst, hLl, q7, hB, e0, e1, e7, e9, e10, e11, e12⟩
              simp (maxSteps := 2000000) +contextual [e0, e1, e7, e9, e10, e11, e12, intD_length, -decide_eq_true_eq, -decide_eq_false_iff_not]
              refine (gT.keep hB fun b h h' => nT (h.trans h'.symm)).appendT (hB.low hss hb7) [g] rfl rfl (by simp; omega) (by simp; omega) ?_
              intro out tT' s3 hout q1 q2 q3 q4
              simp (maxSteps := 2000000) +contextual [e0, e1, e7, e9, e10, e11, e12, -decide_eq_true_eq, -decide_eq_false_iff_not]
              have p7 : s3 b7 = some (.cells (fl os.length (inL L))) := q2 _ _ nT q7
              have nT' : tT'.blk ≠ some b7 := fun h => (q3 b7 h).elim nT fun h => by rw [q7] at h; cases h
              have gK2 : GrV 1 σ (m.kept.map natD) tK s3 := (gK.keep hB fun b h h' => nK (h.trans h'.symm)).keep q2 fun b h h' => nTK b h' h
              have hKne : ∀ b, tK.blk = some b → s2 b ≠ none := fun b h h2 => by
                obtain ⟨-, c, hc⟩ := (gK.keep hB fun b h h' => nK (h.trans h'.symm)).blk h
                rw [hc] at h2; cases h2
              have nTK' : ∀ b, tT'.blk = some b → tK.blk ≠ some b := fun b h h' => (q3 b h).elim (fun h => nTK b h h') (hKne b h')
              refine hloop_intro (fun n2 e s => ∃ (k : Nat) (K : List Nat) (tK' : Tok), k + n2 = os.length ∧ e 0 = .list (os.map oldD) t0 ∧ e 1 = .list (ws.map wantD) t1 ∧ e 7 = .lit (.slice (some ⟨b7, 0, none⟩) os.length os.length) ∧ e 9 = .list (out.map intD) tT' ∧
                e 10 = .list (K.map natD) tK' ∧ e 11 = .int .i64 i ∧ e 15 = .int .i64 k ∧ (w.kind = 4 ∨ k = 0) ∧ s b7 = some (.cells (fl os.length fun x => decide (k ≤ x) && inL L x)) ∧
                GrV 1 σ (out.map intD) tT' s ∧ GrV 1 σ (K.map natD) tK' s ∧ tK'.blk ≠ some b7 ∧ (∀ b, tT'.blk = some b → tK'.blk ≠ some b) ∧ SLe σ s ∧ Sm K (m.kept ++ (List.range k).filter (inL L))) os.length ?_ ?_
              · refine ⟨0, m.kept, tK, by simp, ?_⟩
                simp (maxSteps := 2000000) +contextual [e0, e1, e7, e9, e10, e11, e12, -decide_eq_true_eq, -decide_eq_false_iff_not]
                exact ⟨p7, q4, gK2, nK, nTK', q1, rfl⟩
              · rintro n2 e s ⟨k, K, tK', hk, e0, e1, e7, e9, e10, e11, e15, hk4, p7, gT', gK', nK', nTK', hss, hK⟩
                have hK : K = _ := hK
                have hsum : ∀ k, (m.kept ++ (List.range k).filter (inL L)).length ≤ m.kept.length + k := fun k => by
                  rw [List.length_append]
                  have := List.length_filter_le (inL L) (List.range k)
                  simp at this; omega
                have fin : ∀ (M2 : MSt) (K2 : List Nat), M2 = mstep os m w → K = M2.kept → out = M2.take → s b7 = some (.cells (fl os.length (inL M2.left))) → Srt os.length M2.left → M2.left.length + M2.kept.length ≤ os.length →
                    ∃ m_1, m_1 < n ∧ ∃ x, SLe x s ∧ ∃ i_1 : Nat, i_1 + m_1 = ws.length ∧ ∃ (x_1 : MSt) (x_2 : Tok), (List.map intD out = List.map intD x_1.take ∧ tT' = x_2) ∧ ∃ (x_3 : Tok), (List.map natD K = List.map natD x_1.kept ∧ tK' = x_3) ∧ IntKind.i64.wrap (↑i + 1) = ↑i_1 ∧
                      x b7 = some (HObj.cells (fl os.length (inL x_1.left))) ∧ GrV 1 σ (List.map intD x_1.take) x_2 x ∧ GrV 1 σ (List.map natD x_1.kept) x_3 x ∧ ¬x_2.blk = some b7 ∧ ¬x_3.blk = some b7 ∧ (∀ (b : Nat), x_2.blk = some b → ¬x_3.blk = some b) ∧ SLe σ x ∧ Srt os.length x_1.left ∧
                        Sm (mof os ws) (List.foldl (mstep os) x_1 (List.drop i_1 ws)) ∧ x_1.take.length = i_1 ∧ x_1.left.length + x_1.kept.length ≤ os.length := by
                  intro M2 K2 f1 f2 f3 f4 f5 f6
                  refine ⟨n - 1, by omega, s, SLe.refl _, i + 1, by omega, M2, tT', ⟨by rw [f3], rfl⟩, tK', ⟨by rw [f2], rfl⟩, by rw [wrap_i64] <;> omega, f4, by rw [← f3]; exact gT', by rw [← f2]; exact gK', nT', nK', nTK', hss, f5, ?_, ?_, f6⟩
                  · show mof os ws = _; rw [hsm, f1]
                  · rw [← f3, hout]; simp [htl]
                have hLk : ∀ k, os.length ≤ k → (List.range os.length).filter (inL L) = L := fun _ _ => hsL.symm
                by_cases hkn : k < os.length
                · by_cases h44 : w.kind = 4
                  · have hL : (List.range (k + 1)).filter (inL L) = (List.range k).filter (inL L) ++ if inL L k then [k] else [] := by
                      rw [List.range_succ, List.filter_append]; cases h : inL L k <;> simp [h]
                    have hsum1 := hsum k
                    rw [← hK] at hsum1
                    simp (maxSteps := 2000000) +contextual [e0, e1, e7, e9, e10, e11, e15, hkn, p7, fl_at _ hkn, hw2, h4, wantD_length, h44, wantD_eq w, natD_length, -decide_eq_true_eq, -decide_eq_false_iff_not]
                    refine ⟨by omega, fun hin => ?_, fun hin => ?_⟩
                    · refine gK'.appendT hss [k] rfl rfl (by simp; omega) (by simp only [List.length_singleton]; omega) ?_
                      intro K2 tK2 s4 hK2 r1 r2 r3 r4
                      have p74 := r2 _ _ nK' p7
                      have nK2 : tK2.blk ≠ some b7 := fun h => (r3 b7 h).elim nK' fun h => by rw [p7] at h; cases h
                      have gT2 := gT'.keep r2 fun b h h' => nTK' b h h'
                      have nTK2 : ∀ b, tT'.blk = some b → tK2.blk ≠ some b := fun b h h' => (r3 b h').elim (nTK' b h) fun h2 => by
                        obtain ⟨-, c, hc⟩ := gT'.blk h
                        rw [hc] at h2; cases h2
                      simp (maxSteps := 2000000) +contextual [e0, e1, e7, e9, e10, e11, e15, hkn, p74, -decide_eq_true_eq, -decide_eq_false_iff_not]
                      refine ⟨by omega, n2 - 1, by omega, _, SLe.refl _, k + 1, by omega, K2, tK2, ⟨rfl, rfl⟩, by rw [wrap_i64] <;> omega, .inl h44, ?_, gT2.keep (But.set _) fun b h h' => nT' (h.trans h'.symm), r4.keep (But.set _) fun b h h' => nK2 (h.trans h'.symm), nK2, nTK2, r1.put hb7 _, ?_⟩
                      · rw [Store.set_same, fl_set _ hkn]
                        refine congrArg some (congrArg HObj.cells (fl_congr fun x hx => ?_))
                        by_cases hxk : x = k
                        · subst hxk
                          have : ¬ (x + 1 ≤ x) := by omega
                          simp [this]
                        · have : (k ≤ x) ↔ (k + 1 ≤ x) := by omega
                          simp [hxk, this]
                      · show K2 = _
                        rw [hK2, hK, hL, hin]; simp
                    · refine ⟨n2 - 1, by omega, s, SLe.refl _, k + 1, by omega, K, tK', ⟨rfl, rfl⟩, by rw [wrap_i64] <;> omega, ?_, gT', gK', nK', nTK', hss, ?_⟩
                      · rw [p7]
                        refine congrArg some (congrArg HObj.cells (fl_congr fun x hx => ?_))
                        by_cases hxk : x = k
                        · subst hxk; simp [hin]
                        · have : (k ≤ x) ↔ (k + 1 ≤ x) := by omega
                          simp [this]
                      · show K = _
                        rw [hK, hL, hin]; simp
                  · have hk0 : k = 0 := by rcases hk4 with h | h; exact absurd h h44; exact h
                    subst hk0
                    rw [if_neg h44] at hst
                    simp (maxSteps := 2000000) +contextual [e0, e1, e7, e9, e10, e11, e15, hkn, p7, fl_at _ hkn, hw2, h4, wantD_length, decide_eq_false h44, wantD_eq w, -decide_eq_true_eq, -decide_eq_false_iff_not]
                    exact fin ⟨L, m.take ++ [g], m.kept⟩ [] hst.symm (by rw [hK]; simp) hout (by rw [p7]; simp) hsL (by simp; omega)
                · have hkk : k = os.length := by omega
                  subst hkk
                  simp (maxSteps := 2000000) +contextual [e0, e1, e7, e9, e10, e11, e15, hkn, -decide_eq_true_eq, -decide_eq_false_iff_not]
                  have hLL : (List.range os.length).filter (inL L) = L := hsL.symm
                  rw [hLL] at hK
                  by_cases h44 : w.kind = 4
                  · rw [if_pos h44] at hst
                    have := hsL.len
                    exact fin ⟨[], m.take ++ [g], m.kept ++ L⟩ [] hst.symm hK hout (by
                      rw [p7]
                      refine congrArg some (congrArg HObj.cells (fl_congr fun x hx => ?_))
                      have : ¬ os.length ≤ x := by omega
                      simp [inL, this]) (Srt.nil _) (by simp; omega)
                  · have hk0 : os.length = 0 := by rcases hk4 with h | h; exact absurd h h44; exact h
                    rw [if_neg h44] at hst
                    have hL0 : L = [] := by rw [← hLL, hk0]; rfl
                    subst hL0
                    exact fin ⟨[], m.take ++ [g], m.kept⟩ [] hst.symm (by rw [hK]; simp) hout (by
                      rw [p7]
                      exact congrArg some (congrArg HObj.cells (fl_congr fun x hx => by omega))) hsL (by simp; omega)
        · have hi2 : ws.drop i = [] := List.drop_eq_nil_of_le (by omega)
          rw [hi2] at hsm
          have hsm : mof os ws = m := hsm
          simp (maxSteps := 2000000) +contextual [e0, e1, e7, e9, e10, e11, h4, -decide_eq_true_eq, -decide_eq_false_iff_not]
          refine hloop_intro (fun n2 e s => ∃ (k : Nat) (G : List Nat) (tG : Tok), k + n2 = os.length ∧ e 0 = .list (os.map oldD) t0 ∧ e 7 = .lit (.slice (some ⟨b7, 0, none⟩) os.length os.length) ∧ e 9 = .list (m.take.map intD) tT ∧
            e 10 = .list (m.kept.map natD) tK ∧ e 16 = .list (G.map natD) tG ∧ e 17 = .int .i64 k ∧ s b7 = some (.cells (fl os.length (inL m.left))) ∧
            GrV 1 σ (G.map natD) tG s ∧ tG.blk ≠ some b7 ∧ SLe σ s ∧ Sm G ((List.range k).filter (inL m.left))) os.length ?_ ?_
          · refine ⟨0, [], .nil, by simp, ?_⟩
            simp (maxSteps := 2000000) +contextual [e0, e1, e7, e9, e10, e11, -decide_eq_true_eq, -decide_eq_false_iff_not]
            exact ⟨h7, .nil _, hss, rfl⟩
          · rintro n2 e s ⟨k, G, tG, hk, e0, e7, e9, e10, e16, e17, p7, gG, nG, hss, hG⟩
            have hG : G = _ := hG
            by_cases hkn : k < os.length
            · have hL : (List.range (k + 1)).filter (inL m.left) = (List.range k).filter (inL m.left) ++ if inL m.left k then [k] else [] := by
                rw [List.range_succ, List.filter_append]; cases h : inL m.left k <;> simp [h]
              have hGl : G.length ≤ k := by rw [hG]; exact Nat.le_trans (List.length_filter_le _ _) (by simp)
              simp (maxSteps := 2000000) +contextual [e0, e7, e9, e10, e16, e17, hkn, p7, fl_at _ hkn, natD_length, -decide_eq_true_eq, -decide_eq_false_iff_not]
              refine ⟨by omega, fun hin => ?_, fun hin => ?_⟩
              · refine gG.appendT hss [k] rfl rfl (by simp; omega) (by simp only [List.length_singleton]; omega) ?_
                intro G2 tG2 s4 hG2 r1 r2 r3 r4
                have p74 := r2 _ _ nG p7
                have nG2 : tG2.blk ≠ some b7 := fun h => (r3 b7 h).elim nG fun h => by rw [p7] at h; cases h
                simp (maxSteps := 2000000) +contextual [e0, e7, e9, e10, e16, e17, hkn, p74, -decide_eq_true_eq, -decide_eq_false_iff_not]
                refine ⟨n2 - 1, by omega, s4, SLe.refl _, k + 1, by omega, G2, tG2, ⟨rfl, rfl⟩, by rw [wrap_i64] <;> omega, p74, r4, nG2, r1, ?_⟩
                show G2 = _
                rw [hG2, hL, hin, hG]; simp
              · refine ⟨n2 - 1, by omega, s, SLe.refl _, k + 1, by omega, G, tG, ⟨rfl, rfl⟩, by rw [wrap_i64] <;> omega, p7, gG, nG, hss, ?_⟩
                show G = _
                rw [hL, hin, hG]; simp
            · have hkk : k = os.length := by omega
              subst hkk
              have hLL : (List.range os.length).filter (inL m.left) = m.left := hsrt.symm
              rw [hLL] at hG
              subst hG
              simp (maxSteps := 2000000) +contextual [e0, e7, e9, e10, e16, e17, hkn, -decide_eq_true_eq, -decide_eq_false_iff_not]
              unfold refD
              rw [hsm]
              exact ⟨hss, Wk.tup3 (.list _ _) (.list _ _) (.list _ _)⟩
end Go.HL
