/- The law MatchOnce. -/
import Derived.Test.YtdbbbhjajkobaaaGmonce
set_option linter.unusedVariables false
set_option linter.unusedSimpArgs false
set_option maxRecDepth 100000
set_option maxHeartbeats 8000000
namespace Go.HL
open Go.RowKit Go.Proofs

def mofA (M : MSt) : List D := [.list (M.take.map intD) .ro, .list (M.kept.map natD) .ro, .list (M.left.map natD) .ro]
theorem c_once (os : List Old) (l : List Ins) (t0 t1 : Tok) : Ret Try.prog 13 [.list (os.map oldD) t0, .list (l.map insD) t1] (.bool true) := by
  refine Ret.of fun σ => ?_
  refine HCalls.start mixed false _ _ (fn := Try.f13) (by kernel_rfl) rfl (by kernel_rfl) rfl (by kernel_rfl) (by kernel_rfl) ?_
  simp (maxSteps := 2000000) +contextual [-decide_eq_true_eq, -decide_eq_false_iff_not]
  refine c_up16 _ _ ?_
  simp (maxSteps := 2000000) +contextual [-decide_eq_true_eq, -decide_eq_false_iff_not]
  refine c_wants16 l t1 _ _ ?_
  by_cases hok : fewI l = true ∧ chkP l = 0
  · rw [if_pos hok]
    have hsz := someP_sz l
    have hl := (fewI_fits hok.1).1
    have hokl := ok_of hok.2
    generalize (someP l).1 = ws at *
    have hwl := sz_len ws
    obtain ⟨_, -, -, hla, -⟩ := hokl
    simp (maxSteps := 2000000) +contextual [-decide_eq_true_eq, -decide_eq_false_iff_not]
    intro h30
    have hosl : os.length ≤ 30 := by have := dec_f h30; omega
    refine c_mof os ws t0 .ro (by omega) (by omega) _ _ ?_
    have hmD : mofD os ws = .agg (mofA (mof os ws)) := rfl
    rw [hmD]
    obtain ⟨M, hM⟩ : ∃ M, M = mof os ws := ⟨_, rfl⟩
    rw [← hM]
    obtain ⟨m1, m2, -⟩ := mof_len os ws
    rw [← hM] at m1 m2
    simp (maxSteps := 2000000) +contextual [mofA, m1, -decide_eq_true_eq, -decide_eq_false_iff_not]
    intro b8 hb8
    refine ⟨by omega, ?_⟩
    intro b9 n98 hb9
    have hn98 : ¬ b8 = b9 := fun h => n98 h.symm
    rw [nl_zero]
    have hb9σ : σ b9 = none := hb9
    refine hloop_cut 0 (fun e s => e 0 = .list (os.map oldD) t0 ∧ e 5 = .bool true ∧ e 8 = .ptr b8 0 ∧ e 9 = .lit (.slice (some ⟨b9, 0, none⟩) os.length os.length) ∧ s b8 = some (.cells (mofA M)) ∧ s b9 = some (.cells (nl os.length (met M))) ∧ SLe σ s) ?_ ?_
    · refine hloop_intro (fun n e s => ∃ i : Nat, i + n = ws.length ∧ e 0 = .list (os.map oldD) t0 ∧ e 5 = .bool true ∧ e 6 = .list (ws.map wantD) .ro ∧ e 8 = .ptr b8 0 ∧ e 9 = .lit (.slice (some ⟨b9, 0, none⟩) os.length os.length) ∧ e 10 = .int .i64 i ∧ s b8 = some (.cells (mofA M)) ∧ s b9 = some (.cells (nl os.length (met (st os ws i)))) ∧ SLe σ s) ws.length ?_ ?_
      · refine ⟨0, by simp, ?_⟩
        simp (maxSteps := 2000000) +contextual [mofA, hn98, n98, -decide_eq_true_eq, -decide_eq_false_iff_not]
        exact ⟨nl_congr fun k hk => (met_start os ws hk).symm, ((SLe.refl σ).set hb8 _).set (by simp [n98, hb9]) _⟩
      · rintro n e s ⟨i, hi, e0, e5, e6, e8, e9, e10, p8, p9, hs⟩
        by_cases h4 : i < ws.length
        · obtain ⟨w, hw, hw2⟩ : ∃ w, ws[i]? = some w ∧ ws[i] = w := ⟨_, List.getElem?_eq_getElem h4, rfl⟩
          have hF := st_f os ws i
          have htk := st_take os hw
          have hst := st_succ os hw
          have hkp := st_kept os hla i h4
          have hi1 : i < M.take.length := by omega
          obtain ⟨g, hg⟩ : ∃ g, g = gAt os w (st os ws i).left := ⟨_, rfl⟩
          rw [← hM, ← hg] at htk
          have htk2 : M.take[i] = g := by rw [List.getElem?_eq_getElem hi1] at htk; simpa using htk
          have hgr : ¬ (os.length : Int) ≤ g ∧ ¬ g < -1 := by
            rcases gAt_mem os w (st os ws i).left with h | ⟨j, hj, h⟩
            · rw [hg, h]; omega
            · rw [hg, h]; have := hF.srt.lt j hj; omega
          simp only [mofA] at p8
          simp (maxSteps := 2000000) +contextual [e0, e5, e6, e8, e9, e10, p8, p9, h4, m1, htk, htk2, intD_length, intD_def, hgr.1, hgr.2, hw2, wantD_length, wantD_eq w, -hcond_bool, -decide_eq_true_eq, -decide_eq_false_iff_not]
          by_cases hg0 : g < 0
          · have hg1 : gAt os w (st os ws i).left = -1 := by omega
            have hmet : met (st os ws (i + 1)) = met (st os ws i) := by funext k; rw [hst]; exact met_skip hF hg1 k
            by_cases k1 : w.kind = 1
            · by_cases kk : w.key = ⟨#[]⟩
              · simp (maxSteps := 2000000) +contextual [e0, e5, e6, e8, e9, e10, p8, p9, h4, decide_eq_true hg0, decide_eq_true k1, decide_eq_true kk, -decide_eq_true_eq, -decide_eq_false_iff_not]
                exact ⟨n - 1, by omega, s, SLe.refl _, i + 1, by omega, by rw [wrap_i64] <;> omega, by simp only [mofA]; exact p8, by rw [hmet]; exact p9, hs⟩
              · have hno := gAt_none hg1 k1 kk
                have hnm : ∀ k, k < os.length → met (st os ws i) k = 0 → ¬ ((oAt os k).tag = w.tag ∧ (oAt os k).key = w.key) := fun k hk hm => hno k (by
                  have : inL ((st os ws i).left ++ (st os ws i).kept) k = true := by
                    cases h : inL ((st os ws i).left ++ (st os ws i).kept) k with
                    | true => rfl
                    | false => simp [met, h] at hm
                  rw [hkp] at this
                  simpa [inL] using this)
                simp (maxSteps := 2000000) +contextual [e0, e5, e6, e8, e9, e10, p8, p9, h4, decide_eq_true hg0, decide_eq_true k1, decide_eq_false kk, -decide_eq_true_eq, -decide_eq_false_iff_not]
                refine hloop_fix (fun n e => ∃ k : Nat, k + n = os.length ∧ e 0 = .list (os.map oldD) t0 ∧ e 5 = .bool true ∧ e 6 = .list (ws.map wantD) .ro ∧ e 8 = .ptr b8 0 ∧ e 9 = .lit (.slice (some ⟨b9, 0, none⟩) os.length os.length) ∧ e 10 = .int .i64 i ∧ e 11 = .int .i64 g ∧ e 12 = .int .i64 k) os.length ?_ ?_
                · refine ⟨0, by simp, ?_⟩
                  simp (maxSteps := 2000000) +contextual [e0, e5, e6, e8, e9, e10, -decide_eq_true_eq, -decide_eq_false_iff_not]
                · rintro n1 e ⟨k, hk, e0, e5, e6, e8, e9, e10, e11, e12⟩
                  by_cases hk4 : k < os.length
                  · have ho : os[k] = oAt os k := by rw [← oAt_def, List.getD_eq_getElem?_getD, List.getElem?_eq_getElem hk4]; rfl
                    simp (maxSteps := 2000000) +contextual [e0, e5, e6, e8, e9, e10, e11, e12, hk4, -decide_eq_true_eq, -decide_eq_false_iff_not]
                    refine hdraw_intro (by kernel_rfl) ?_
                    have hnk := hnm k hk4
                    simp (maxSteps := 2000000) +contextual [e0, e5, e6, e8, e9, e10, e11, e12, hk4, p9, nl_at _ hk4, ho, oldD_length, oldD_def, hw2, wantD_length, wantD_eq w, h4, -decide_eq_true_eq, -decide_eq_false_iff_not]
                    have nx : ∃ m, m < n1 ∧ ∃ k_1 : Nat, k_1 + m = os.length ∧ IntKind.i64.wrap (↑k + 1) = ↑k_1 := ⟨n1 - 1, by omega, k + 1, by omega, by rw [wrap_i64] <;> omega⟩
                    exact ⟨by omega, fun a => ⟨fun b => ⟨decide_eq_false fun c => hnk (dec_t a) ⟨dec_t b, c⟩, fun _ => nx⟩, fun _ => nx⟩, fun _ => nx⟩
                  · simp (maxSteps := 2000000) +contextual [e0, e5, e6, e8, e9, e10, e11, e12, hk4, decide_eq_true hg0, -decide_eq_true_eq, -decide_eq_false_iff_not]
                    exact ⟨n - 1, by omega, s, SLe.refl _, i + 1, by omega, by rw [wrap_i64] <;> omega, by simp only [mofA]; exact p8, by rw [hmet]; exact p9, hs⟩
            · simp (maxSteps := 2000000) +contextual [e0, e5, e6, e8, e9, e10, p8, p9, h4, decide_eq_true hg0, decide_eq_false k1, -decide_eq_true_eq, -decide_eq_false_iff_not]
              exact ⟨n - 1, by omega, s, SLe.refl _, i + 1, by omega, by rw [wrap_i64] <;> omega, by simp only [mofA]; exact p8, by rw [hmet]; exact p9, hs⟩
          · obtain ⟨j, hj, hgj⟩ : ∃ j : Nat, j ∈ (st os ws i).left ∧ g = j := by
              rcases gAt_mem os w (st os ws i).left with h | ⟨j, hj, h⟩
              · omega
              · exact ⟨j, hj, by rw [hg, h]⟩
            have hjl := hF.srt.lt j hj
            obtain ⟨f, hf⟩ := gAt_takes (hg.symm.trans hgj)
            have hmet := met_take hF (hg.symm.trans hgj) hj
            have hm0 := met_old hj
            have hoj : os[j] = oAt os j := by rw [← oAt_def, List.getD_eq_getElem?_getD, List.getElem?_eq_getElem hjl]; rfl
            have red : (decide (w.kind = 1) = true → (decide (w.key = { data := #[] }) = false → True) ∧ (decide (w.key = { data := #[] }) = true → True)) := fun _ => ⟨fun _ => trivial, fun _ => trivial⟩
            subst hgj
            have tf := takes_facts hf
            have hnl : spl (nl os.length (met (st os ws i))) j [.int .i64 1] = nl os.length (met (st os ws (i + 1))) := by
              rw [nl_set _ hjl]
              exact nl_congr fun k _ => by rw [hst, hmet]
            have fin : ∃ m, m < n ∧ ∃ x, SLe x (s.set b9 (.cells (nl os.length (met (st os ws (i + 1)))))) ∧ ∃ i_1 : Nat, i_1 + m = ws.length ∧ IntKind.i64.wrap (↑i + 1) = ↑i_1 ∧ x b8 = some (.cells (mofA M)) ∧ x b9 = some (.cells (nl os.length (met (st os ws i_1)))) ∧ SLe σ x :=
              ⟨n - 1, by omega, _, SLe.refl _, i + 1, by omega, by rw [wrap_i64] <;> omega, by rw [Store.set_ne _ _ _ _ hn98]; simp only [mofA]; exact p8, Store.set_same _ _ _, hs.put hb9σ _⟩
            have hw1 : IntKind.i64.wrap 1 = 1 := by decide
            rcases tf with ⟨k1, tt, tk⟩ | ⟨k2, tt⟩ | k3
            · have k2 : ¬ w.kind = 2 := by omega
              have k4 : ¬ w.kind = 4 := by omega
              by_cases kk : w.key = ⟨#[]⟩
              · simp (maxSteps := 2000000) +contextual [e0, e5, e6, e8, e9, e10, p8, p9, h4, hjl, nl_at _ hjl, hm0, decide_eq_true k1, decide_eq_true kk, decide_eq_false hg0, hnl, -decide_eq_true_eq, -decide_eq_false_iff_not]
                refine ⟨by omega, ?_⟩
                refine hdraw_intro (by kernel_rfl) ?_
                simp (maxSteps := 2000000) +contextual [e0, e5, e6, e8, e9, e10, h4, hjl, wantD_length, oldD_length, hw2, hoj, wantD_eq w, oldD_def, decide_eq_true k1, tt, tk, decide_eq_false k2, decide_eq_false k4, -decide_eq_true_eq, -decide_eq_false_iff_not]
                rw [hw1, hnl]
                exact fin
              · simp (maxSteps := 2000000) +contextual [e0, e5, e6, e8, e9, e10, p8, p9, h4, hjl, nl_at _ hjl, hm0, decide_eq_true k1, decide_eq_false kk, decide_eq_false hg0, hnl, -decide_eq_true_eq, -decide_eq_false_iff_not]
                refine ⟨by omega, ?_⟩
                refine hdraw_intro (by kernel_rfl) ?_
                simp (maxSteps := 2000000) +contextual [e0, e5, e6, e8, e9, e10, h4, hjl, wantD_length, oldD_length, hw2, hoj, wantD_eq w, oldD_def, decide_eq_true k1, tt, tk, decide_eq_false k2, decide_eq_false k4, -decide_eq_true_eq, -decide_eq_false_iff_not]
                rw [hw1, hnl]
                exact fin
            · have k1 : ¬ w.kind = 1 := by omega
              simp (maxSteps := 2000000) +contextual [e0, e5, e6, e8, e9, e10, p8, p9, h4, hjl, nl_at _ hjl, hm0, decide_eq_false k1, decide_eq_false hg0, hnl, -decide_eq_true_eq, -decide_eq_false_iff_not]
              have k4 : ¬ w.kind = 4 := by omega
              refine ⟨by omega, ?_⟩
              refine hdraw_intro (by kernel_rfl) ?_
              simp (maxSteps := 2000000) +contextual [e0, e5, e6, e8, e9, e10, h4, hjl, wantD_length, oldD_length, hw2, hoj, wantD_eq w, oldD_def, decide_eq_false k1, decide_eq_true k2, tt, decide_eq_false k4, -decide_eq_true_eq, -decide_eq_false_iff_not]
              rw [hw1, hnl]
              exact fin
            · have k1 : ¬ w.kind = 1 := by omega
              have k2 : ¬ w.kind = 2 := by omega
              have k4 : ¬ w.kind = 4 := by omega
              simp (maxSteps := 2000000) +contextual [e0, e5, e6, e8, e9, e10, p8, p9, h4, hjl, nl_at _ hjl, hm0, decide_eq_false k1, decide_eq_false hg0, hnl, -decide_eq_true_eq, -decide_eq_false_iff_not]
              refine ⟨by omega, ?_⟩
              refine hdraw_intro (by kernel_rfl) ?_
              simp (maxSteps := 2000000) +contextual [e0, e5, e6, e8, e9, e10, h4, hjl, wantD_length, oldD_length, hw2, hoj, wantD_eq w, oldD_def, decide_eq_false k1, decide_eq_false k2, decide_eq_false k4, -decide_eq_true_eq, -decide_eq_false_iff_not]
              rw [hw1, hnl]
              exact fin
        · simp (maxSteps := 2000000) +contextual [e0, e5, e6, e8, e9, e10, p8, p9, h4, -decide_eq_true_eq, -decide_eq_false_iff_not]
          have hiw : i = ws.length := by omega
          rw [hiw, st_all, ← hM]
          exact ⟨rfl, hs⟩
    · rintro e s ⟨e0, e5, e8, e9, p8, p9, hs⟩
      simp only [mofA] at p8
      simp (maxSteps := 2000000) +contextual [e0, e5, e8, e9, p8, p9, -decide_eq_true_eq, -decide_eq_false_iff_not]
      refine hdraw_intro (by kernel_rfl) ?_
      simp (maxSteps := 2000000) +contextual [e0, e5, e8, e9, p8, p9, natD_length, -appA_full, -decide_eq_true_eq, -decide_eq_false_iff_not]
      have hF : StF os M := by have := st_f os ws ws.length; rwa [st_all, ← hM] at this
      have g0 : GrV 1 s (([] : List Nat).map natD) .full s := .full _ s
      refine g0.appendT (l := ([] : List Nat)) (SLe.refl s) M.kept rfl rfl (by simp; omega) (by simp; omega) ?_
      intro R1 tk1 s1 hR1 q1 q2 q3 q4
      simp (maxSteps := 2000000) +contextual [e0, e5, e8, e9, p8, p9, natD_length, -appA_full, q1 _ _ p8, -decide_eq_true_eq, -decide_eq_false_iff_not]
      refine ⟨q1, ?_⟩
      have hR1l : R1.length = M.kept.length := by rw [hR1]; rfl
      refine q4.appendT q1 M.left rfl rfl (by simp; omega) (by omega) ?_
      intro R tk2 s2 hR r1 r2 r3 r4
      have hRk : R = M.kept ++ M.left := by rw [hR, hR1]; rfl
      have hRn : R.Nodup := by rw [hRk]; exact (List.perm_append_comm.nodup_iff).1 hF.nd
      have hRl : ∀ x ∈ R, x < os.length := fun x hx => by
        rw [hRk] at hx
        rcases List.mem_append.1 hx with hx | hx
        · exact hF.lt x hx
        · exact hF.srt.lt x hx
      have hRlen : R.length ≤ os.length := by rw [hRk]; simp; omega
      have z9 := r1 _ _ p9
      have zs : SLe σ s2 := hs.trans r1
      simp (maxSteps := 2000000) +contextual [e0, e5, e8, e9, -decide_eq_true_eq, -decide_eq_false_iff_not]
      refine ⟨r1, ?_⟩
      have hR0 : nl os.length (met M) = nl os.length fun k => if inL (R.drop 0) k then 0 else 1 := nl_congr fun k _ => by
        simp [met, inL, hRk, or_comm]
      rw [hR0] at z9
      clear hR0 r2 r3 r4 q1 q2 q3 q4 p8 p9
      refine hloop_cut 4 (fun e s => e 0 = .list (os.map oldD) t0 ∧ e 5 = .bool true ∧ e 9 = .lit (.slice (some ⟨b9, 0, none⟩) os.length os.length) ∧ s b9 = some (.cells (nl os.length fun _ => 1)) ∧ SLe σ s) ?_ ?_
      · refine hloop_intro (fun n e s => ∃ i : Nat, i + n = R.length ∧ e 0 = .list (os.map oldD) t0 ∧ e 5 = .bool true ∧ e 9 = .lit (.slice (some ⟨b9, 0, none⟩) os.length os.length) ∧ e 13 = .list (R.map natD) tk2 ∧ e 14 = .int .i64 i ∧ s b9 = some (.cells (nl os.length fun k => if inL (R.drop i) k then 0 else 1)) ∧ SLe σ s) R.length ?_ ?_
        · refine ⟨0, by simp, ?_⟩
          simp (maxSteps := 2000000) +contextual [e0, e5, e8, e9, -decide_eq_true_eq, -decide_eq_false_iff_not]
          exact ⟨z9, zs⟩
        · rintro n e s ⟨i, hi, e0, e5, e9, e13, e14, p9, hs⟩
          by_cases h4 : i < R.length
          · obtain ⟨x, hx, hx2⟩ : ∃ x, R[i]? = some x ∧ R[i] = x := ⟨_, List.getElem?_eq_getElem h4, rfl⟩
            have hxl := hRl x (List.mem_of_getElem? hx)
            have hdr : R.drop i = x :: R.drop (i + 1) := by rw [List.drop_eq_getElem_cons h4, hx2]
            have hxn : x ∉ R.drop (i + 1) := by
              have := hRn.sublist (List.drop_sublist i R)
              rw [hdr] at this
              exact (List.nodup_cons.1 this).1
            have hin : inL (R.drop i) x = true := by rw [hdr]; simp [inL]
            have h0x : ¬ (x : Int) < 0 := by omega
            have hge : ¬ (os.length : Int) ≤ x := by omega
            have hw1 : IntKind.i64.wrap (0 + 1) = 1 := by decide
            have hw1' : IntKind.i64.wrap 1 = 1 := by decide
            simp (maxSteps := 2000000) +contextual [e0, e5, e9, e13, e14, h4, hx, hx2, natD_length, natD_def, h0x, hge, p9, nl_at _ hxl, hin, hxl, -decide_eq_true_eq, -decide_eq_false_iff_not]
            refine ⟨decide_eq_false (by omega), fun _ => ⟨by omega, n - 1, by omega, _, SLe.refl _, i + 1, by omega, by rw [wrap_i64] <;> omega, ?_, hs.put hb9σ _⟩⟩
            rw [Store.set_same, hw1', nl_set _ hxl]
            refine congrArg some (congrArg HObj.cells (nl_congr fun k hk => ?_))
            rw [hdr]
            by_cases hkx : k = x
            · subst hkx; simp [inL, hxn]
            · simp [inL, hkx]
          · have hdr : R.drop i = [] := List.drop_eq_nil_of_le (by omega)
            rw [hdr] at p9
            simp (maxSteps := 2000000) +contextual [e0, e5, e9, e13, e14, h4, -decide_eq_true_eq, -decide_eq_false_iff_not]
            exact ⟨by rw [p9]; rfl, hs⟩
      · rintro e s ⟨e0, e5, e9, p9, hs⟩
        simp (maxSteps := 2000000) +contextual [e0, e5, e9, -decide_eq_true_eq, -decide_eq_false_iff_not]
        refine hloop_fix (fun n e => ∃ k : Nat, k + n = os.length ∧ e 0 = .list (os.map oldD) t0 ∧ e 5 = .bool true ∧ e 9 = .lit (.slice (some ⟨b9, 0, none⟩) os.length os.length) ∧ e 15 = .int .i64 k) os.length ?_ ?_
        · refine ⟨0, by simp, ?_⟩
          simp (maxSteps := 2000000) +contextual [e0, e5, e9, -decide_eq_true_eq, -decide_eq_false_iff_not]
        · rintro n e ⟨k, hk, e0, e5, e9, e15⟩
          by_cases h4 : k < os.length
          · simp (maxSteps := 2000000) +contextual [e0, e5, e9, e15, h4, p9, nl_at _ h4, -decide_eq_true_eq, -decide_eq_false_iff_not]
            exact ⟨by omega, n - 1, by omega, k + 1, by omega, by rw [wrap_i64] <;> omega⟩
          · simp (maxSteps := 2000000) +contextual [e0, e5, e9, e15, h4, -decide_eq_true_eq, -decide_eq_false_iff_not]
            exact hs
  · rw [if_neg hok]
    simp (maxSteps := 2000000) +contextual [-decide_eq_true_eq, -decide_eq_false_iff_not]
end Go.HL
