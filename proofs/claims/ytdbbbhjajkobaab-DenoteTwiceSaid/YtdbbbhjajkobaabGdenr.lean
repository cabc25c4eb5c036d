/- What a program comes to, of trees: the document's answer. -/
import Derived.Test.YtdbbbhjajkobaabGden
import Derived.Test.YtdbbbhjajkobaabGratt
set_option linter.unusedVariables false
set_option linter.unusedSimpArgs false
set_option maxRecDepth 100000
set_option maxHeartbeats 8000000
namespace Go.HL
open Go.RowKit Go.Proofs

theorem c_rtrees_of (ws : List Want) (old : List Tree) (t0 t1 : Tok) (hw : szL ws ≤ 1024) (hol : old.length ≤ 1048576) (ho : ∀ x ∈ old, FitT x)
    (sub : ∀ w ∈ ws, ∀ o, (∀ x, o = some x → FitT x) → ∀ tk, Ret Try.prog 15 [.list (w.kids.map wantD) .ro, .list ((kidsO o).map treeD) tk] (.list ((den w.kids (kidsO o)).map treeD) .ro)) :
    Ret Try.prog 15 [.list (ws.map wantD) t0, .list (old.map treeD) t1] (.list ((den ws old).map treeD) .ro) := by
  refine Ret.weak fun σ => ?_
  have hwl := sz_len ws
  refine HCalls.start mixed false _ _ (fn := Try.f15) (by kernel_rfl) rfl (by kernel_rfl) rfl (by kernel_rfl) (by kernel_rfl) ?_
  simp (maxSteps := 2000000) +contextual [-decide_eq_true_eq, -decide_eq_false_iff_not]
  obtain ⟨os, hos⟩ : ∃ os, os = old.map oldT := ⟨_, rfl⟩
  have hosl : os.length = old.length := by rw [hos]; simp
  refine hloop_cut 0 (fun e s => ∃ (tok : Tok), e 0 = .list (ws.map wantD) t0 ∧ e 1 = .list (old.map treeD) t1 ∧ e 5 = .list (os.map oldD) tok ∧ SLe σ s) ?_ ?_
  · refine hloop_intro (fun n e s => ∃ (i : Nat) (pre : List Old) (tok : Tok), i + n = old.length ∧ e 0 = .list (ws.map wantD) t0 ∧ e 1 = .list (old.map treeD) t1 ∧ e 6 = .int .i64 i ∧ e 5 = .list (pre.map oldD) tok ∧ GrV 2 σ (pre.map oldD) tok s ∧ SLe σ s ∧ Sm pre ((old.take i).map oldT)) old.length ?_ ?_
    · refine ⟨0, [], .nil, by simp, ?_⟩
      simp (maxSteps := 2000000) +contextual [-decide_eq_true_eq, -decide_eq_false_iff_not]
      exact ⟨.nil _, rfl⟩
    · rintro n e s ⟨i, pre, tok, hi, e0, e1, e6, e5, gG, hs, hpre⟩
      have hpre : pre = _ := hpre
      by_cases h4 : i < old.length
      · obtain ⟨x, hx, hx2⟩ : ∃ x, old[i]? = some x ∧ old[i] = x := ⟨_, List.getElem?_eq_getElem h4, rfl⟩
        have hpl : pre.length = i := by rw [hpre]; simp; omega
        simp (maxSteps := 2000000) +contextual [e0, e1, e6, e5, h4, -decide_eq_true_eq, -decide_eq_false_iff_not]
        refine hdraw_part σ hs (by kernel_rfl) ?_
        simp (maxSteps := 2000000) +contextual [e0, e1, e6, e5, h4, hx, hx2, treeD_length, treeD_eq x, oldD_length, -decide_eq_true_eq, -decide_eq_false_iff_not]
        refine gG.appendT hs [oldT x] rfl rfl (by simp; omega) (by simp only [List.length_singleton]; omega) ?_
        intro out tok' s' hout q1 q2 q3 q4
        simp (maxSteps := 2000000) +contextual [e0, e1, e6, -decide_eq_true_eq, -decide_eq_false_iff_not]
        refine ⟨q1, n - 1, by omega, s', SLe.refl _, i + 1, by omega, by rw [wrap_i64] <;> omega, out, tok', ⟨rfl, rfl⟩, q4, q1, ?_⟩
        show out = _
        rw [hout, hpre, ← List.map_take, take_next hx, List.map_append]; rfl
      · have hpo : pre = os := by rw [hpre, List.take_of_length_le (by omega), hos]
        rw [hpo] at e5
        simp (maxSteps := 2000000) +contextual [e0, e1, e6, e5, h4, -decide_eq_true_eq, -decide_eq_false_iff_not]
        exact hs
  · rintro e s ⟨tok, e0, e1, e5, hs⟩
    simp (maxSteps := 2000000) +contextual [e0, e1, e5, -decide_eq_true_eq, -decide_eq_false_iff_not]
    refine c_rof16 os ws tok t0 (by omega) (by omega) _ _ ?_
    have hden : den ws old = denL ws (mof os ws).take (mof os ws).kept old := by unfold den; rw [← hos]
    have hrng := fun (i : Nat) (w : Want) h => mof_rng os (ws := ws) (i := i) (w := w) h
    have hklt := mof_kept_lt os ws
    obtain ⟨m1, m2, -⟩ := mof_len os ws
    have hrD : refD os ws = .tup (mofA (mof os ws)) := rfl
    rw [hden, hrD]
    generalize mof os ws = M at *
    simp (maxSteps := 2000000) +contextual [mofA, m1, e0, e1, -decide_eq_true_eq, -decide_eq_false_iff_not]
    refine hloop_intro (fun n e s => ∃ (i : Nat) (out : List TreeT) (tok : Tok), i + n = ws.length ∧ e 0 = .list (ws.map wantD) t0 ∧ e 1 = .list (old.map treeD) t1 ∧ e 7 = .list (M.take.map intD) .ro ∧ e 8 = .list (M.kept.map natD) .ro ∧ e 10 = .list (out.map treeT) tok ∧ e 11 = .int .i64 i ∧
      GrV 5 σ (out.map treeT) tok s ∧ SLe σ s ∧ Sm (out.map TreeT.t) (denL (ws.take i) M.take M.kept old)) ws.length ?_ ?_
    · refine ⟨0, [], .nil, by simp, ?_⟩
      simp (maxSteps := 2000000) +contextual [e0, e1, -decide_eq_true_eq, -decide_eq_false_iff_not]
      exact ⟨.nil _, hs, rfl⟩
    · rintro n e s ⟨i, out, tok, hi, e0, e1, e7, e8, e10, e11, gG, hs, hout⟩
      have hout : out.map TreeT.t = _ := hout
      by_cases h4 : i < ws.length
      · obtain ⟨w, hw, hw2⟩ : ∃ w, ws[i]? = some w ∧ ws[i] = w := ⟨_, List.getElem?_eq_getElem h4, rfl⟩
        obtain ⟨g1, g2⟩ := hrng i w hw
        generalize gAt os w (st os ws i).left = g at *
        have hnext := denL_take ws M.take M.kept old i (by omega) (by omega) w hw
        have hgd : M.take.getD i (-1) = g := by rw [List.getD_eq_getElem?_getD, g1]; rfl
        rw [hgd] at hnext
        have hlen := denL_len (ws.take i) M.take M.kept old
        rw [← hout, List.length_map] at hlen
        have hi1 : i < M.take.length := by omega
        have htk2 : M.take[i] = g := by rw [List.getElem?_eq_getElem hi1] at g1; simpa using g1
        have hszw := sz_mem (List.mem_of_getElem? hw)
        have hszw2 := szW_eq w
        simp (maxSteps := 2000000) +contextual [e0, e1, e7, e8, e10, e11, h4, hw, hw2, wantD_length, -decide_eq_true_eq, -decide_eq_false_iff_not]
        intro b12 hb12
        obtain ⟨S, hS⟩ : ∃ S, S = s.set b12 (.cells (wantD w)) := ⟨_, rfl⟩
        have hsS : SLe s S := by rw [hS]; exact (SLe.refl s).set hb12 _
        have s12 : S b12 = some (.cells [.int .i64 w.kind, .str w.tag, .str w.key, .str w.text, .list (w.attrs.map attrD) .ro, .list (w.kids.map wantD) .ro]) := by rw [hS, Store.set_same, wantD_eq]
        have gS := gG.mono hsS
        have hss := hs.trans hsS
        rw [← hS]
        clear hS hsS
        have hkl : M.kept.length ≤ 1048576 := by omega
        have hil : (List.take i ws).length = i := by simp; omega
        rw [hil] at hlen
        have hmul : i * (1 + M.kept.length) ≤ 1024 * (1 + M.kept.length) := Nat.mul_le_mul_right _ (by omega)
        have fin : ∀ (out' : List TreeT) (tok' : Tok) (s2 : Store), out'.map TreeT.t = denL (ws.take (i + 1)) M.take M.kept old → GrV 5 σ (out'.map treeT) tok' s2 → SLe σ s2 →
            ∃ m, m < n ∧ ∃ x, SLe x s2 ∧ ∃ i_1 : Nat, i_1 + m = ws.length ∧ ∃ (x_1 : List TreeT) (x_2 : Tok), (List.map treeT out' = List.map treeT x_1 ∧ tok' = x_2) ∧ IntKind.i64.wrap (↑i + 1) = ↑i_1 ∧ GrV 5 σ (List.map treeT x_1) x_2 x ∧ SLe σ x ∧ Sm (List.map TreeT.t x_1) (denL (List.take i_1 ws) M.take M.kept old) :=
          fun out' tok' s2 f1 f3 f5 => ⟨n - 1, by omega, s2, SLe.refl _, i + 1, by omega, out', tok', ⟨rfl, rfl⟩, by rw [wrap_i64] <;> omega, f3, f5, f1⟩
        have hgl : g < old.length := by omega
        have hfo := tkO_fit ho hgl
        have hsub := sub w (List.mem_of_getElem? hw)
        have hgo : 0 ≤ g → g.toNat < old.length := fun _ => by omega
        rw [show valD false (List.take 1 (wantD w)) = D.int .i64 w.kind by rw [wantD_eq]; rfl]
        by_cases k1 : w.kind = 1
        · have k2 : ¬ w.kind = 2 := by omega
          have hdw : denW w g M.kept old = [elemT w.tag w.key w.attrs (den w.kids) (tkO old g)] := by rw [denW_eq, if_neg k2, if_pos k1]
          rw [elemT_eq] at hdw
          simp (maxSteps := 2000000) +contextual [s12, e0, e1, e7, e8, e10, e11, decide_eq_true k1, -decide_eq_true_eq, -decide_eq_false_iff_not]
          intro b13 hb13
          have n13 : ¬ b12 = b13 := fun h => by subst h; rw [s12] at hb13; cases hb13
          have n13' : ¬ b13 = b12 := fun h => n13 h.symm
          by_cases hg0 : 0 ≤ g
          · have hto : tkO old g = some (tAt old g.toNat) := by simp [tkO, hg0]
            have hfx := (hfo _ hto).inv
            have hsub := hsub _ hfo .ro
            rw [hto] at hdw hsub
            simp only [kidsO] at hdw hsub
            have hxo : old[g.toNat]? = some (tAt old g.toNat) := by rw [List.getElem?_eq_getElem (hgo hg0), tAt_get (hgo hg0)]
            simp (maxSteps := 2000000) +contextual [e0, e1, e7, e8, e10, e11, g1, htk2, intD_length, intD_def, hi1, decide_eq_true hg0, -decide_eq_true_eq, -decide_eq_false_iff_not]
            have o1 : ∀ X, SLe (Store.one b12 (.cells [.int .i64 w.kind, .str w.tag, .str w.key, .str w.text, .list (w.attrs.map attrD) .ro, .list (w.kids.map wantD) .ro])) (S.set b13 X) := fun X => Store.one_put s12 n13
            refine hdraw_part _ (o1 _) (by kernel_rfl) ?_
            simp (maxSteps := 2000000) +contextual [e0, e1, e7, e8, e10, e11, g1, htk2, intD_length, intD_def, hi1, hxo, treeD_length, treeD_eq (tAt old g.toNat), hgl, hg0, tAt_get (hgo hg0), -decide_eq_true_eq, -decide_eq_false_iff_not]
            refine c_rjoinA _ _ _ _ hfx.2.1.1 (by omega) _ _ ?_
            simp (maxSteps := 2000000) +contextual [e0, e1, e7, e8, e10, e11, -decide_eq_true_eq, -decide_eq_false_iff_not]
            refine ⟨o1 _, o1 _, ?_⟩
            refine hdraw_part _ (o1 _) (by kernel_rfl) ?_
            simp (maxSteps := 2000000) +contextual [e0, e1, e7, e8, e10, e11, g1, htk2, intD_length, intD_def, hi1, hxo, treeD_length, treeD_eq (tAt old g.toNat), hgl, hg0, tAt_get (hgo hg0), -decide_eq_true_eq, -decide_eq_false_iff_not]
            refine hsub _ _ ?_
            simp (maxSteps := 2000000) +contextual [e0, e1, e7, e8, e10, e11, -decide_eq_true_eq, -decide_eq_false_iff_not]
            refine ⟨o1 _, o1 _, ?_⟩
            refine ⟨fun a _ => rfl, ?_⟩
            refine (gS.mono ((SLe.refl S).set hb13 _)).appendT (hss.set hb13 _) [TreeT.mk (.mk w.tag ⟨#[]⟩ w.key (joinA (tAt old g.toNat).attrs w.attrs) (den w.kids (tAt old g.toNat).kids)) .ro .ro] rfl rfl (by simp; omega) (by simp only [List.length_singleton]; omega) ?_
            intro out' tok' s2 hout' q1 q2 q3 q4
            simp (maxSteps := 2000000) +contextual [e0, e1, e7, e8, e10, e11, -decide_eq_true_eq, -decide_eq_false_iff_not]
            exact fin out' tok' s2 (by rw [hout', List.map_append, hout, hnext, hdw]; rfl) q4 q1
          · have hto : tkO old g = none := by simp [tkO, hg0]
            have hsub := hsub none (by simp) .nil
            rw [hto] at hdw
            simp only [kidsO, List.map_nil] at hdw hsub
            simp (maxSteps := 2000000) +contextual [e0, e1, e7, e8, e10, e11, g1, htk2, intD_length, intD_def, hi1, decide_eq_false hg0, s12, n13, n13', -decide_eq_true_eq, -decide_eq_false_iff_not]
            refine c_rnewA _ _ (by omega) _ _ ?_
            simp (maxSteps := 2000000) +contextual [e0, e1, e7, e8, e10, e11, s12, n13, n13', -decide_eq_true_eq, -decide_eq_false_iff_not]
            refine hsub _ _ ?_
            simp (maxSteps := 2000000) +contextual [e0, e1, e7, e8, e10, e11, -decide_eq_true_eq, -decide_eq_false_iff_not]
            refine ⟨fun a _ => rfl, ?_⟩
            refine (gS.mono ((SLe.refl S).set hb13 _)).appendT (hss.set hb13 _) [TreeT.mk (.mk w.tag ⟨#[]⟩ w.key (newA w.attrs) (den w.kids [])) .ro .ro] rfl rfl (by simp; omega) (by simp only [List.length_singleton]; omega) ?_
            intro out' tok' s2 hout' q1 q2 q3 q4
            simp (maxSteps := 2000000) +contextual [e0, e1, e7, e8, e10, e11, -decide_eq_true_eq, -decide_eq_false_iff_not]
            exact fin out' tok' s2 (by rw [hout', List.map_append, hout, hnext, hdw]; rfl) q4 q1
        · by_cases k2 : w.kind = 2
          · have hdw : denW w g M.kept old = [.mk ⟨#[]⟩ w.text ⟨#[]⟩ [] []] := by rw [denW_eq, if_pos k2]
            simp (maxSteps := 2000000) +contextual [s12, e0, e1, e7, e8, e10, e11, decide_eq_true k2, decide_eq_false k1, -decide_eq_true_eq, -decide_eq_false_iff_not]
            refine ⟨fun a _ => rfl, ?_⟩
            refine gS.appendT hss [(TreeT.mk (.mk ⟨#[]⟩ w.text ⟨#[]⟩ [] []) .nil .nil)] rfl rfl (by simp; omega) (by simp only [List.length_singleton]; omega) ?_
            intro out' tok' s2 hout' q1 q2 q3 q4
            simp (maxSteps := 2000000) +contextual [e0, e1, e7, e8, e10, e11, -decide_eq_true_eq, -decide_eq_false_iff_not]
            exact fin out' tok' s2 (by rw [hout', List.map_append, hout, hnext, hdw]; rfl) q4 q1
          · by_cases k3 : w.kind = 3
            · have hdw : denW w g M.kept old = (tkO old g).toList := by rw [denW_eq, if_neg k2, if_neg k1, if_pos k3]
              by_cases hg0 : 0 ≤ g
              · have hto : tkO old g = some (tAt old g.toNat) := by simp [tkO, hg0]
                have hxo : old[g.toNat]? = some (tAt old g.toNat) := by rw [List.getElem?_eq_getElem (hgo hg0), tAt_get (hgo hg0)]
                rw [hto] at hdw
                simp (maxSteps := 2000000) +contextual [s12, e0, e1, e7, e8, e10, e11, decide_eq_true k3, decide_eq_false k1, decide_eq_false k2, decide_eq_true hg0, g1, htk2, intD_length, intD_def, hi1, hxo, hgl, hg0, treeD_length, tAt_get (hgo hg0), -decide_eq_true_eq, -decide_eq_false_iff_not]
                refine ⟨fun a _ => rfl, ?_⟩
                refine gS.appendT hss [(TreeT.mk (tAt old g.toNat) .ro .ro)] (treeT_of _) rfl (by simp; omega) (by simp only [List.length_singleton]; omega) ?_
                intro out' tok' s2 hout' q1 q2 q3 q4
                simp (maxSteps := 2000000) +contextual [e0, e1, e7, e8, e10, e11, -decide_eq_true_eq, -decide_eq_false_iff_not]
                exact fin out' tok' s2 (by rw [hout', List.map_append, hout, hnext, hdw]; rfl) q4 q1
              · have hto : tkO old g = none := by simp [tkO, hg0]
                rw [hto] at hdw
                simp (maxSteps := 2000000) +contextual [s12, e0, e1, e7, e8, e10, e11, decide_eq_true k3, decide_eq_false k1, decide_eq_false k2, decide_eq_false hg0, g1, htk2, intD_length, intD_def, hi1, -decide_eq_true_eq, -decide_eq_false_iff_not]
                exact fin out tok S (by rw [hout, hnext, hdw]; simp) gS hss
            · by_cases k4 : w.kind = 4
              · have hdw : denW w g M.kept old = M.kept.map (tAt old) := by rw [denW_eq, if_neg k2, if_neg k1, if_neg k3, if_pos k4]
                simp (maxSteps := 2000000) +contextual [s12, e0, e1, e7, e8, e10, e11, decide_eq_true k4, decide_eq_false k1, decide_eq_false k2, decide_eq_false k3, -decide_eq_true_eq, -decide_eq_false_iff_not]
                refine hloop_intro (fun n1 e s => ∃ (k : Nat) (out : List TreeT) (tok : Tok), k + n1 = M.kept.length ∧ e 0 = .list (ws.map wantD) t0 ∧ e 1 = .list (old.map treeD) t1 ∧ e 7 = .list (M.take.map intD) .ro ∧ e 8 = .list (M.kept.map natD) .ro ∧ e 10 = .list (out.map treeT) tok ∧ e 11 = .int .i64 i ∧
                  e 14 = .int .i64 k ∧ GrV 5 σ (out.map treeT) tok s ∧ SLe σ s ∧ Sm (out.map TreeT.t) (denL (ws.take i) M.take M.kept old ++ (M.kept.take k).map (tAt old))) M.kept.length ?_ ?_
                · refine ⟨0, out, tok, by simp, ?_⟩
                  simp (maxSteps := 2000000) +contextual [e0, e1, e7, e8, e10, e11, -decide_eq_true_eq, -decide_eq_false_iff_not]
                  exact ⟨gS, hss, by show _ = _; simp [hout]⟩
                · rintro n1 e s ⟨k, out, tok, hk, e0, e1, e7, e8, e10, e11, e14, gS, hss, hout⟩
                  have hout : out.map TreeT.t = _ := hout
                  by_cases hk4 : k < M.kept.length
                  · obtain ⟨x, hx, hx2⟩ : ∃ x, M.kept[k]? = some x ∧ M.kept[k] = x := ⟨_, List.getElem?_eq_getElem hk4, rfl⟩
                    have hxl : x < old.length := by have := hklt x (List.mem_of_getElem? hx); omega
                    have hlen : out.length ≤ i * (1 + M.kept.length) + k := by
                      have h1 : (out.map TreeT.t).length = out.length := by simp
                      have h2 := denL_len (ws.take i) M.take M.kept old
                      rw [hil] at h2
                      rw [← h1, hout, List.length_append]
                      simp; omega
                    have hxo : old[x]? = some (tAt old x) := by rw [List.getElem?_eq_getElem hxl, tAt_get hxl]
                    have hnk : M.kept.take (k + 1) = M.kept.take k ++ [x] := take_next hx
                    simp (maxSteps := 2000000) +contextual [e0, e1, e7, e8, e10, e11, e14, hk4, hx, hx2, natD_length, natD_def, hxo, hxl, treeD_length, tAt_get hxl, -decide_eq_true_eq, -decide_eq_false_iff_not]
                    refine ⟨fun a _ => rfl, ?_⟩
                    refine gS.appendT hss [TreeT.mk (tAt old x) .ro .ro] (treeT_of _) rfl (by simp; omega) (by simp only [List.length_singleton]; omega) ?_
                    intro out' tok' s2 hout' q1 q2 q3 q4
                    simp (maxSteps := 2000000) +contextual [e0, e1, e7, e8, e10, e11, e14, -decide_eq_true_eq, -decide_eq_false_iff_not]
                    refine ⟨n1 - 1, by omega, s2, SLe.refl _, k + 1, by omega, out', tok', ⟨rfl, rfl⟩, by rw [wrap_i64] <;> omega, q4, q1, ?_⟩
                    show _ = _
                    rw [hout', List.map_append, hout, ← List.map_take, hnk, List.map_append, List.append_assoc]; rfl
                  · have hkk : M.kept.take k = M.kept := List.take_of_length_le (by omega)
                    rw [hkk] at hout
                    simp (maxSteps := 2000000) +contextual [e0, e1, e7, e8, e10, e11, e14, hk4, -decide_eq_true_eq, -decide_eq_false_iff_not]
                    exact ⟨n - 1, by omega, s, SLe.refl _, i + 1, by omega, out, tok, ⟨rfl, rfl⟩, by rw [wrap_i64] <;> omega, gS, hss, by show _ = _; rw [hout, hnext, hdw]⟩
              · have hdw : denW w g M.kept old = [] := by rw [denW_eq, if_neg k2, if_neg k1, if_neg k3, if_neg k4]
                simp (maxSteps := 2000000) +contextual [s12, e0, e1, e7, e8, e10, e11, decide_eq_false k1, decide_eq_false k2, decide_eq_false k3, decide_eq_false k4, -decide_eq_true_eq, -decide_eq_false_iff_not]
                exact fin out tok S (by rw [hout, hnext, hdw]; simp) gS hss
      · have hi2 : ws.take i = ws := List.take_of_length_le (by omega)
        rw [hi2] at hout
        simp (maxSteps := 2000000) +contextual [e0, e1, e7, e8, e10, e11, h4, -decide_eq_true_eq, -decide_eq_false_iff_not]
        refine ⟨hs, ?_⟩
        have := treeT_wk out tok
        rwa [hout] at this
theorem c_rtrees : ∀ (n : Nat) (ws : List Want) (old : List Tree) (t0 t1 : Tok), szL ws < n → szL ws ≤ 1024 → old.length ≤ 1048576 → (∀ x ∈ old, FitT x) →
    Ret Try.prog 15 [.list (ws.map wantD) t0, .list (old.map treeD) t1] (.list ((den ws old).map treeD) .ro) := by
  intro n
  induction n with
  | zero => intro ws old t0 t1 h; omega
  | succ n ih =>
    intro ws old t0 t1 hn hw hol ho
    refine c_rtrees_of ws old t0 t1 hw hol ho fun w hwm o hfo tk => ?_
    have h1 := sz_mem hwm
    have h2 := szW_eq w
    obtain ⟨k1, k2⟩ := kids_fit hfo
    exact ih w.kids (kidsO o) .ro tk (by omega) (by omega) k1 k2
end Go.HL
