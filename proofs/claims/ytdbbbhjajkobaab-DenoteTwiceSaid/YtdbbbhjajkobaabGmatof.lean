/- Which of the old nodes becomes which: all that is wanted. -/
import Derived.Test.YtdbbbhjajkobaabGmpure
set_option linter.unusedVariables false
set_option linter.unusedSimpArgs false
set_option maxRecDepth 100000
set_option maxHeartbeats 1000000
namespace Go.HL
open Go.RowKit Go.Proofs

/-- Blocks that differ. -/
structure Dis3 (oL oT oK : Option Nat) (b4 b7 : Nat) : Prop where
  lt : ∀ b, oL = some b → oT ≠ some b
  lk : ∀ b, oL = some b → oK ≠ some b
  tk : ∀ b, oT = some b → oK ≠ some b
  l4 : oL ≠ some b4
  l7 : oL ≠ some b7
  t4 : oT ≠ some b4
  t7 : oT ≠ some b7
  k4 : oK ≠ some b4
  k7 : oK ≠ some b7
  n47 : b4 ≠ b7
theorem c_mof0 (os : List Old) (ws : List Want) (t0 t1 : Tok) (σ : Store) (hos : os.length ≤ 1048576) (hws : ws.length ≤ 1048576) :
    HCalls Try.prog 67 [.list (os.map oldD) t0, .list (ws.map wantD) t1] σ fun d s => ∃ dT dK dL oT oK oL, d = .agg [dT, dK, dL] ∧ OwV intD 1 σ (mof os ws).take dT oT s ∧ OwV natD 1 σ (mof os ws).kept dK oK s ∧ OwV natD 1 σ (mof os ws).left dL oL s ∧
      (∀ b, oT = some b → oK ≠ some b ∧ oL ≠ some b) ∧ (∀ b, oK = some b → oL ≠ some b) ∧ SLe σ s := by
  refine HCalls.start mixed true _ _ (fn := Try.f67) (by kernel_rfl) rfl (by kernel_rfl) rfl (by kernel_rfl) (by kernel_rfl) ?_
  simp (maxSteps := 2000000) +contextual [-decide_eq_true_eq, -decide_eq_false_iff_not]
  intro b4 hb4
  refine hloop_intro (fun n e s => ∃ (i : Nat) (dL : D) (oL : Option Nat), i + n = os.length ∧ e 0 = .list (os.map oldD) t0 ∧ e 1 = .list (ws.map wantD) t1 ∧ e 4 = .ptr b4 0 ∧ e 5 = dL ∧ e 13 = .int .i64 os.length ∧ e 14 = .int .i64 i ∧ OwV natD 1 (σ.set b4 (.cells [.list [] .nil, .list [] .nil, .list [] .nil])) (List.range i) dL oL s ∧ SLe (σ.set b4 (.cells [.list [] .nil, .list [] .nil, .list [] .nil])) s) os.length ?_ ?_
  · refine ⟨0, .list [] .nil, none, by simp, ?_⟩
    simp (maxSteps := 2000000) +contextual [-decide_eq_true_eq, -decide_eq_false_iff_not]
    exact .nil _ rfl
  · rintro n e s ⟨i, dL, oL, hi, e0, e1, e4, e5, e13, e14, hL, hs⟩
    by_cases h4 : i < os.length
    · simp (maxSteps := 2000000) +contextual [e0, e1, e4, e5, e13, e14, h4, -decide_eq_true_eq, -decide_eq_false_iff_not]
      intro b hb
      refine ⟨hL.sized, ?_⟩
      refine (hL.mono ((SLe.refl s).set hb _)).append natD_length (hs.set hb _) (z := [.int .i64 0]) rfl rfl rfl [i] rfl (by simp; omega) (by simp; omega) ?_
      intro d' o' s' g1 g2 g3 g4
      simp (maxSteps := 2000000) +contextual [e0, e1, e4, e5, e13, e14, -decide_eq_true_eq, -decide_eq_false_iff_not]
      exact ⟨n - 1, by omega, s', SLe.refl _, i + 1, by omega, by rw [wrap_i64] <;> omega, ⟨o', by rw [List.range_succ]; exact g4⟩, g1⟩
    · have hin : i = os.length := by omega
      simp (maxSteps := 2000000) +contextual [e0, e1, e4, e5, e13, e14, h4, -decide_eq_true_eq, -decide_eq_false_iff_not]
      intro b7 hb7
      have hz4 : s b4 = some (.cells [.list [] .nil, .list [] .nil, .list [] .nil]) := hs _ _ (Store.set_same _ _ _)
      have hss : SLe σ s := ((SLe.refl σ).set hb4 _).trans hs
      have n47 : b4 ≠ b7 := fun h => by subst h; rw [hz4] at hb7; cases hb7
      have hb7σ : σ b7 = none := hss.none hb7
      rw [hin] at hL
      have hL' := (hL.low ((SLe.refl σ).set hb4 _)).mono ((SLe.refl s).set hb7 (.cells [.list [] .nil, .list [] .nil, .list [] .nil]))
      refine hloop_intro (fun n e s => ∃ (i : Nat) (m : MSt) (dL dT dK : D) (oL oT oK : Option Nat), i + n = ws.length ∧ e 0 = .list (os.map oldD) t0 ∧ e 22 = .list (ws.map wantD) t1 ∧ e 23 = .int .i64 ws.length ∧ e 24 = .int .i64 i ∧ e 4 = .ptr b4 0 ∧ e 5 = dL ∧ e 7 = .ptr b7 0 ∧
        s b4 = some (.cells [.list [] .nil, .list [] .nil, .list [] .nil]) ∧ s b7 = some (.cells [dT, dK, .list [] .nil]) ∧ OwV natD 1 σ m.left dL oL s ∧ OwV intD 1 σ m.take dT oT s ∧ OwV natD 1 σ m.kept dK oK s ∧ Dis3 oL oT oK b4 b7 ∧ SLe σ s ∧
        Sm (mof os ws) ((ws.drop i).foldl (mstep os) m) ∧ m.take.length = i ∧ m.left.length + m.kept.length ≤ os.length ∧ ∀ x ∈ m.left, x < os.length) ws.length ?_ ?_
      · refine ⟨0, ⟨List.range os.length, [], []⟩, dL, .list [] .nil, .list [] .nil, oL, none, none, by simp, ?_⟩
        simp (maxSteps := 2000000) +contextual [e0, e1, e4, e5, n47, hz4, hL', -decide_eq_true_eq, -decide_eq_false_iff_not]
        refine ⟨.nil _ rfl, .nil _ rfl, ⟨fun _ _ => by simp, fun _ _ => by simp, fun _ _ => by simp, fun h => ?_, fun h => (hL.new h).2 hb7, by simp, by simp, by simp, by simp, n47⟩, hss.set hb7 _, rfl⟩
        have := (hL.new h).1
        rw [Store.set_same] at this; cases this
      · rintro n e s ⟨i, m, dL, dT, dK, oL, oT, oK, hi, e0, e22, e23, e24, e4, e5, e7, hb4s, hb7s, hL, hT, hK, hd, hss, hsm, htl, hlk, hlo⟩
        by_cases h4 : i < ws.length
        · obtain ⟨w, hw, hw2⟩ : ∃ w, ws[i]? = some w ∧ ws[i] = w := ⟨_, List.getElem?_eq_getElem h4, rfl⟩
          have hdrop : ws.drop i = w :: ws.drop (i + 1) := by rw [List.drop_eq_getElem_cons h4, hw2]
          rw [hdrop] at hsm
          have hsm : mof os ws = (ws.drop (i + 1)).foldl (mstep os) (mstep os m w) := hsm
          have fin : ∀ (m' : MSt) (dT' dK' dL' : D) (oL' oT' oK' : Option Nat) (S : Store), m' = mstep os m w → S b4 = some (.cells [.list [] .nil, .list [] .nil, .list [] .nil]) → S b7 = some (.cells [dT', dK', .list [] .nil]) →
              OwV natD 1 σ m'.left dL' oL' S → OwV intD 1 σ m'.take dT' oT' S → OwV natD 1 σ m'.kept dK' oK' S → Dis3 oL' oT' oK' b4 b7 → SLe σ S → m'.take.length = i + 1 → m'.left.length + m'.kept.length ≤ os.length → (∀ x ∈ m'.left, x < os.length) →
              ∃ m, m < n ∧ ∃ x, SLe x S ∧ ∃ i_1 : Nat, i_1 + m = ws.length ∧ IntKind.i64.wrap (↑i + 1) = ↑i_1 ∧ x b4 = some (.cells [.list [] .nil, .list [] .nil, .list [] .nil]) ∧ ∃ (x_1 : MSt) (x_2 x_3 : D), x b7 = some (.cells [x_2, x_3, .list [] .nil]) ∧
                ∃ x_4, OwV natD 1 σ x_1.left dL' x_4 x ∧ ∃ x_5, OwV intD 1 σ x_1.take x_2 x_5 x ∧ ∃ x_6, OwV natD 1 σ x_1.kept x_3 x_6 x ∧ Dis3 x_4 x_5 x_6 b4 b7 ∧ SLe σ x ∧ Sm (mof os ws) (List.foldl (mstep os) x_1 (List.drop i_1 ws)) ∧ x_1.take.length = i_1 ∧ x_1.left.length + x_1.kept.length ≤ os.length ∧ ∀ x, x ∈ x_1.left → x < os.length :=
            fun m' dT' dK' dL' oL' oT' oK' S f1 f2 f3 f4 f5 f6 f7 f8 f9 f10 f11 => ⟨n - 1, by omega, S, SLe.refl _, i + 1, by omega, by rw [wrap_i64] <;> omega, f2, m', dT', dK', f3, oL', f4, oT', f5, oK', f6, f7, f8, (by show mof os ws = _; rw [hsm, f1]), f9, f10, f11⟩
          simp (maxSteps := 2000000) +contextual [e0, e22, e23, e24, e4, e5, e7, h4, hw, hw2, wantD_length, -decide_eq_true_eq, -decide_eq_false_iff_not]
          intro b9 hb9
          have hs9 := (SLe.refl s).set hb9 (.cells (wantD w))
          have hd9 : ¬ b9 = b7 := fun h => by subst h; rw [hb7s] at hb9; cases hb9
          refine (c_which os w m.left dL t0 _ (hL.mono hs9).view (by omega) hlo fun es tk => ?_).mono ?_
          · cases hL with
            | nil _ h => exact .inl h
            | cells => exact .inr (by simp)
          rintro d s' ⟨rfl, rfl⟩
          simp (maxSteps := 2000000) +contextual [e0, e22, e23, e24, e4, e5, e7, -decide_eq_true_eq, -decide_eq_false_iff_not]
          have hd9' : ¬ b7 = b9 := fun h => hd9 h.symm
          have hd94 : ¬ b9 = b4 := fun h => by subst h; rw [hb4s] at hb9; cases hb9
          have hd94' : ¬ b4 = b9 := fun h => hd94 h.symm
          have hmono := hs9
          rcases whichG os w m.left hlo with ⟨hw0, -⟩ | ⟨p, hw0, hp, -⟩
          · have hst : mstep os m w = if w.kind = 4 then ⟨[], m.take ++ [-1], m.kept ++ m.left⟩ else ⟨m.left, m.take ++ [-1], m.kept⟩ := by simp [mstep, hw0]
            obtain ⟨S0, hS0⟩ : ∃ S0, S0 = s.set b9 (.cells (wantD w)) := ⟨_, rfl⟩
            rw [← hS0]
            have f7 : S0 b7 = some (.cells [dT, dK, .list [] .nil]) := by rw [hS0]; exact hs9 _ _ hb7s
            have f4 : S0 b4 = some (.cells [.list [] .nil, .list [] .nil, .list [] .nil]) := by rw [hS0]; exact hs9 _ _ hb4s
            have f9 : S0 b9 = some (.cells (wantD w)) := by rw [hS0, Store.set_same]
            have fL : OwV natD 1 σ m.left dL oL S0 := by rw [hS0]; exact hL.mono hs9
            have fT : OwV intD 1 σ m.take dT oT S0 := by rw [hS0]; exact hT.mono hs9
            have fK : OwV natD 1 σ m.kept dK oK S0 := by rw [hS0]; exact hK.mono hs9
            have fs : SLe σ S0 := by rw [hS0]; exact hss.trans hs9
            clear hS0
            simp (maxSteps := 2000000) +contextual [hw0, f7, e0, e22, e23, e24, e4, e5, e7, -decide_eq_true_eq, -decide_eq_false_iff_not]
            intro b10 hb10
            have hs10 : SLe S0 (S0.set b10 (.cells [.int .i64 (-1)])) := (SLe.refl S0).set hb10 _
            refine ⟨fT.sized, ?_⟩
            refine (fT.mono hs10).append intD_length (fs.trans hs10) (z := [.int .i64 0]) rfl rfl rfl [(-1)] rfl (by simp; omega) (by simp; omega) ?_
            intro dT' oT' s' g1 g2 g3 g4
            have k7 : s' b7 = some (.cells [dT, dK, .list [] .nil]) := g2 b7 _ hd.t7 (hs10 _ _ f7)
            have k4 : s' b4 = some (.cells [.list [] .nil, .list [] .nil, .list [] .nil]) := g2 b4 _ hd.t4 (hs10 _ _ f4)
            have k9 : oT ≠ some b9 := fun h => (hT.new h).2 hb9
            have kw : s' b9 = some (.cells (wantD w)) := g2 b9 _ k9 (hs10 _ _ f9)
            rw [wantD_eq] at kw
            have hwd := g4.word
            have hLs := (fL.mono hs10).keep g2 fun b e h => hd.lt b e h
            have hKs := (fK.mono hs10).keep g2 fun b e h => hd.tk b h e
            have hnw : ∀ b, oT' = some b → oT = some b ∨ S0 b = none := fun b e => by
              rcases g3 b e with h | h
              · exact .inl h
              · exact .inr (hs10.none h)
            have hT7 : oT' ≠ some b7 := fun h => (hnw b7 h).elim hd.t7 fun h => by rw [f7] at h; cases h
            have hT4 : oT' ≠ some b4 := fun h => (hnw b4 h).elim hd.t4 fun h => by rw [f4] at h; cases h
            have hd' : Dis3 oL oT' oK b4 b7 := ⟨fun b e h => (hnw b h).elim (hd.lt b e) (fL.new e).2, hd.lk, fun b h e => (hnw b h).elim (fun h => hd.tk b h e) (fK.new e).2, hd.l4, hd.l7, hT4, hT7, hd.k4, hd.k7, n47⟩
            by_cases k4' : w.kind = 4
            · rw [if_pos k4'] at hst
              rcases hwd with ⟨bT, nT, cT, hT'⟩ | hT'
              all_goals
                rw [hT']
                rw [hT'] at g4
                simp (maxSteps := 2000000) +contextual [e0, e22, e23, e24, e4, e5, e7, k7, kw, decide_eq_true k4', hd9, hd9', -decide_eq_true_eq, -decide_eq_false_iff_not]
                have hKq := fun X => hKs.keep (But.set (b := b7) X) fun b e h => hd.k7 (e.trans h.symm)
                have hLq := fun X => hLs.keep (But.set (b := b7) X) fun b e h => hd.l7 (e.trans h.symm)
                have hTq := fun X => g4.keep (But.set (b := b7) X) fun b e h => hT7 (e.trans h.symm)
                refine ⟨⟨hK.sized, hLs.sized⟩, ?_⟩
                rw [(hLq _).src natD_length]
                simp (maxSteps := 2000000) +contextual [-decide_eq_true_eq, -decide_eq_false_iff_not]
                refine (hKq _).append natD_length (g1.put hb7σ _) (z := [.int .i64 0]) rfl rfl rfl m.left rfl (by simp; omega) (by omega) ?_
                intro dK' oK' s'' q1 q2 q3 q4
                have kk7 := q2 b7 _ hd.k7 (Store.set_same _ _ _)
                have kk4 := q2 b4 _ hd.k4 ((Store.set_ne _ _ _ _ n47).trans k4)
                have hwk := q4.word
                have hTs := (hTq _).keep q2 fun b e h => hd'.tk b e h
                have hnk : ∀ b, oK' = some b → oK = some b ∨ (b ≠ b7 ∧ s' b = none) := fun b e => by
                  rcases q3 b e with h | h
                  · exact .inl h
                  · refine .inr ?_
                    by_cases hb : b = b7
                    · subst hb; rw [Store.set_same] at h; cases h
                    · rw [Store.set_ne _ _ _ _ hb] at h; exact ⟨hb, h⟩
                have hK7 : oK' ≠ some b7 := fun h => (hnk b7 h).elim hd.k7 fun h => h.1 rfl
                have hK4 : oK' ≠ some b4 := fun h => (hnk b4 h).elim hd.k4 fun h => by rw [k4] at h; cases h.2
                have hd2 : Dis3 none oT' oK' b4 b7 := ⟨fun _ e => by simp at e, fun _ e => by simp at e, fun b e h => (hnk b h).elim (hd'.tk b e) fun h => (g4.new e).2 h.2, by simp, by simp, hT4, hT7, hK4, hK7, n47⟩
                rcases hwk with ⟨bK, nK, cK, hK'⟩ | hK'
                all_goals
                  rw [hK']
                  rw [hK'] at q4
                  simp (maxSteps := 2000000) +contextual [e0, e22, e23, e24, e4, e5, e7, kk7, -decide_eq_true_eq, -decide_eq_false_iff_not]
                  refine fin ⟨[], m.take ++ [(-1)], m.kept ++ m.left⟩ _ _ _ none oT' oK' _ hst.symm (by rw [Store.set_ne _ _ _ _ n47]; exact kk4) (Store.set_same _ _ _) (.nil _ rfl) (hTs.keep (But.set (b := b7) _) fun b e h => hT7 (e.trans h.symm)) (q4.keep (But.set (b := b7) _) fun b e h => hK7 (e.trans h.symm)) hd2 (q1.put hb7σ _) (by simp [htl]) (by simp; omega) (fun _ h => by simp at h)
            · rw [if_neg k4'] at hst
              rcases hwd with ⟨bT, nT, cT, hT'⟩ | hT'
              all_goals
                rw [hT']
                rw [hT'] at g4
                simp (maxSteps := 2000000) +contextual [e0, e22, e23, e24, e4, e5, e7, k7, kw, decide_eq_false k4', hd9, hd9', -decide_eq_true_eq, -decide_eq_false_iff_not]
                refine fin ⟨m.left, m.take ++ [(-1)], m.kept⟩ _ dK _ oL oT' oK _ hst.symm (by rw [Store.set_ne _ _ _ _ n47]; exact k4) (Store.set_same _ _ _) ((hLs.keep (But.set (b := b7) _) fun b e h => hd.l7 (e.trans h.symm))) (g4.keep (But.set (b := b7) _) fun b e h => hT7 (e.trans h.symm)) (hKs.keep (But.set (b := b7) _) fun b e h => hd.k7 (e.trans h.symm)) hd' (g1.put hb7σ _) (by simp [htl]) (by simp; omega) hlo
          · have hpl : ¬ m.left = [] := fun h => by rw [h] at hp; simp at hp
            have hst : mstep os m w = if w.kind = 4 then ⟨[], m.take ++ [((m.left[p] : Nat) : Int)], m.kept ++ m.left.eraseIdx p⟩ else ⟨m.left.eraseIdx p, m.take ++ [((m.left[p] : Nat) : Int)], m.kept⟩ := by
              simp [mstep, hw0, List.getD_eq_getElem?_getD, hp]
            have hlt : (m.left.eraseIdx p).length = m.left.length - 1 := by simp [List.length_eraseIdx, hp]
            have hlo' : ∀ x ∈ m.left.eraseIdx p, x < os.length := fun x hx => hlo x (List.mem_of_mem_eraseIdx hx)
            cases hL with
            | nil _ h => exact absurd h hpl
            | cells bL cL rest _ hbL hsL hc hm hr =>
              have hdx : List.take 1 (List.drop p ((m.left.map natD).flatten ++ rest)) = [D.int .i64 (m.left[p] : Nat)] := by
                rw [flatN_drop _ rest (by omega), List.drop_eq_getElem_cons hp]; rfl
              have nL9 : ¬ bL = b9 := fun h => by subst h; rw [hsL] at hb9; cases hb9
              have nL9' : ¬ b9 = bL := fun h => nL9 h.symm
              have hwp : IntKind.i64.wrap ((p : Int) + 1) = (p : Int) + 1 := by rw [wrap_i64] <;> omega
              simp (maxSteps := 2000000) +contextual [hw0, hsL, nL9, hp, hdx, hwp, e0, e22, e23, e24, e4, e5, e7, -decide_eq_true_eq, -decide_eq_false_iff_not]
              refine ⟨by omega, ?_⟩
              refine (c_del bL m.left cL p rest _ (by rw [Store.set_ne _ _ _ _ nL9]; exact hsL) hp (by omega) hc hm (by omega)).mono ?_
              rintro d s' ⟨rfl, rfl⟩
              simp (maxSteps := 2000000) +contextual [e0, e22, e23, e24, e4, e5, e7, -decide_eq_true_eq, -decide_eq_false_iff_not]
              have lB : But (some bL) s ((s.set b9 (.cells (wantD w))).set bL (.cells (((m.left.eraseIdx p).map natD).flatten ++ (.int .i64 0 :: rest)))) := (hs9.but _).trans (But.set _)
              obtain ⟨S0, hS0⟩ : ∃ S0, S0 = (s.set b9 (.cells (wantD w))).set bL (.cells (((m.left.eraseIdx p).map natD).flatten ++ (.int .i64 0 :: rest))) := ⟨_, rfl⟩
              obtain ⟨dL2, hdL2⟩ : ∃ d : D, d = .lit (.slice (some ⟨bL, 0, none⟩) (m.left.length - 1) cL) := ⟨_, rfl⟩
              rw [← hS0] at lB ⊢
              rw [← hdL2]
              have f7 : S0 b7 = some (.cells [dT, dK, .list [] .nil]) := lB _ _ hd.l7 hb7s
              have f4 : S0 b4 = some (.cells [.list [] .nil, .list [] .nil, .list [] .nil]) := lB _ _ hd.l4 hb4s
              have f9 : S0 b9 = some (.cells (wantD w)) := by rw [hS0, Store.set_ne _ _ _ _ nL9', Store.set_same]
              have fL : OwV natD 1 σ (m.left.eraseIdx p) dL2 (some bL) S0 := by
                rw [hdL2, ← hlt]
                exact .cells bL cL (.int .i64 0 :: rest) S0 hbL (by rw [hS0, Store.set_same]) (by omega) hm (by simp; omega)
              have fT : OwV intD 1 σ m.take dT oT S0 := hT.keep lB fun b e h => hd.lt b (h.trans rfl) e
              have fK : OwV natD 1 σ m.kept dK oK S0 := hK.keep lB fun b e h => hd.lk b (h.trans rfl) e
              have fs : SLe σ S0 := by rw [hS0]; exact (hss.trans hs9).put hbL _
              clear hS0 lB hdL2
              have hlo := hlo'
              simp (maxSteps := 2000000) +contextual [hw0, f7, e0, e22, e23, e24, e4, e5, e7, -decide_eq_true_eq, -decide_eq_false_iff_not]
              intro b10 hb10
              have hs10 : SLe S0 (S0.set b10 (.cells [.int .i64 ((m.left[p] : Nat) : Int)])) := (SLe.refl S0).set hb10 _
              refine ⟨fT.sized, ?_⟩
              refine (fT.mono hs10).append intD_length (fs.trans hs10) (z := [.int .i64 0]) rfl rfl rfl [((m.left[p] : Nat) : Int)] rfl (by simp; omega) (by simp; omega) ?_
              intro dT' oT' s' g1 g2 g3 g4
              have k7 : s' b7 = some (.cells [dT, dK, .list [] .nil]) := g2 b7 _ hd.t7 (hs10 _ _ f7)
              have k4 : s' b4 = some (.cells [.list [] .nil, .list [] .nil, .list [] .nil]) := g2 b4 _ hd.t4 (hs10 _ _ f4)
              have k9 : oT ≠ some b9 := fun h => (hT.new h).2 hb9
              have kw : s' b9 = some (.cells (wantD w)) := g2 b9 _ k9 (hs10 _ _ f9)
              rw [wantD_eq] at kw
              have hwd := g4.word
              have hLs := (fL.mono hs10).keep g2 fun b e h => hd.lt b e h
              have hKs := (fK.mono hs10).keep g2 fun b e h => hd.tk b h e
              have hnw : ∀ b, oT' = some b → oT = some b ∨ S0 b = none := fun b e => by
                rcases g3 b e with h | h
                · exact .inl h
                · exact .inr (hs10.none h)
              have hT7 : oT' ≠ some b7 := fun h => (hnw b7 h).elim hd.t7 fun h => by rw [f7] at h; cases h
              have hT4 : oT' ≠ some b4 := fun h => (hnw b4 h).elim hd.t4 fun h => by rw [f4] at h; cases h
              have hd' : Dis3 (some bL) oT' oK b4 b7 := ⟨fun b e h => (hnw b h).elim (hd.lt b e) (fL.new e).2, hd.lk, fun b h e => (hnw b h).elim (fun h => hd.tk b h e) (fK.new e).2, hd.l4, hd.l7, hT4, hT7, hd.k4, hd.k7, n47⟩
              by_cases k4' : w.kind = 4
              · rw [if_pos k4'] at hst
                rcases hwd with ⟨bT, nT, cT, hT'⟩ | hT'
                all_goals
                  rw [hT']
                  rw [hT'] at g4
                  simp (maxSteps := 2000000) +contextual [e0, e22, e23, e24, e4, e5, e7, k7, kw, decide_eq_true k4', hd9, hd9', -decide_eq_true_eq, -decide_eq_false_iff_not]
                  have hKq := fun X => hKs.keep (But.set (b := b7) X) fun b e h => hd.k7 (e.trans h.symm)
                  have hLq := fun X => hLs.keep (But.set (b := b7) X) fun b e h => hd.l7 (e.trans h.symm)
                  have hTq := fun X => g4.keep (But.set (b := b7) X) fun b e h => hT7 (e.trans h.symm)
                  refine ⟨⟨hK.sized, hLs.sized⟩, ?_⟩
                  rw [(hLq _).src natD_length]
                  simp (maxSteps := 2000000) +contextual [-decide_eq_true_eq, -decide_eq_false_iff_not]
                  refine (hKq _).append natD_length (g1.put hb7σ _) (z := [.int .i64 0]) rfl rfl rfl (m.left.eraseIdx p) rfl (by simp; omega) (by omega) ?_
                  intro dK' oK' s'' q1 q2 q3 q4
                  have kk7 := q2 b7 _ hd.k7 (Store.set_same _ _ _)
                  have kk4 := q2 b4 _ hd.k4 ((Store.set_ne _ _ _ _ n47).trans k4)
                  have hwk := q4.word
                  have hTs := (hTq _).keep q2 fun b e h => hd'.tk b e h
                  have hnk : ∀ b, oK' = some b → oK = some b ∨ (b ≠ b7 ∧ s' b = none) := fun b e => by
                    rcases q3 b e with h | h
                    · exact .inl h
                    · refine .inr ?_
                      by_cases hb : b = b7
                      · subst hb; rw [Store.set_same] at h; cases h
                      · rw [Store.set_ne _ _ _ _ hb] at h; exact ⟨hb, h⟩
                  have hK7 : oK' ≠ some b7 := fun h => (hnk b7 h).elim hd.k7 fun h => h.1 rfl
                  have hK4 : oK' ≠ some b4 := fun h => (hnk b4 h).elim hd.k4 fun h => by rw [k4] at h; cases h.2
                  have hd2 : Dis3 none oT' oK' b4 b7 := ⟨fun _ e => by simp at e, fun _ e => by simp at e, fun b e h => (hnk b h).elim (hd'.tk b e) fun h => (g4.new e).2 h.2, by simp, by simp, hT4, hT7, hK4, hK7, n47⟩
                  rcases hwk with ⟨bK, nK, cK, hK'⟩ | hK'
                  all_goals
                    rw [hK']
                    rw [hK'] at q4
                    simp (maxSteps := 2000000) +contextual [e0, e22, e23, e24, e4, e5, e7, kk7, -decide_eq_true_eq, -decide_eq_false_iff_not]
                    refine fin ⟨[], m.take ++ [((m.left[p] : Nat) : Int)], m.kept ++ (m.left.eraseIdx p)⟩ _ _ _ none oT' oK' _ hst.symm (by rw [Store.set_ne _ _ _ _ n47]; exact kk4) (Store.set_same _ _ _) (.nil _ rfl) (hTs.keep (But.set (b := b7) _) fun b e h => hT7 (e.trans h.symm)) (q4.keep (But.set (b := b7) _) fun b e h => hK7 (e.trans h.symm)) hd2 (q1.put hb7σ _) (by simp [htl]) (by simp; omega) (fun _ h => by simp at h)
              · rw [if_neg k4'] at hst
                rcases hwd with ⟨bT, nT, cT, hT'⟩ | hT'
                all_goals
                  rw [hT']
                  rw [hT'] at g4
                  simp (maxSteps := 2000000) +contextual [e0, e22, e23, e24, e4, e5, e7, k7, kw, decide_eq_false k4', hd9, hd9', -decide_eq_true_eq, -decide_eq_false_iff_not]
                  refine fin ⟨(m.left.eraseIdx p), m.take ++ [((m.left[p] : Nat) : Int)], m.kept⟩ _ dK _ (some bL) oT' oK _ hst.symm (by rw [Store.set_ne _ _ _ _ n47]; exact k4) (Store.set_same _ _ _) ((hLs.keep (But.set (b := b7) _) fun b e h => hd.l7 (e.trans h.symm))) (g4.keep (But.set (b := b7) _) fun b e h => hT7 (e.trans h.symm)) (hKs.keep (But.set (b := b7) _) fun b e h => hd.k7 (e.trans h.symm)) hd' (g1.put hb7σ _) (by simp [htl]) (by simp; omega) hlo
        · have hi2 : ws.drop i = [] := List.drop_eq_nil_of_le (by omega)
          rw [hi2] at hsm
          have hsm : mof os ws = m := hsm
          rw [hsm]
          have n74 : ¬ b7 = b4 := fun h => n47 h.symm
          have hL0 := hL
          cases hL with
          | nil _ hl0 =>
            simp (maxSteps := 2000000) +contextual [e0, e22, e23, e24, e4, e5, e7, h4, hb4s, hb7s, n47, n74, -decide_eq_true_eq, -decide_eq_false_iff_not]
            exact ⟨_, SLe.refl _, dT, dK, _, ⟨rfl, rfl, rfl⟩, oT, (hT.keep (But.set (b := b7) _) (fun b e h => hd.t7 (e.trans h.symm))).keep (But.set (b := b4) _) (fun b e h => hd.t4 (e.trans h.symm)),
              oK, (hK.keep (But.set (b := b7) _) (fun b e h => hd.k7 (e.trans h.symm))).keep (But.set (b := b4) _) (fun b e h => hd.k4 (e.trans h.symm)),
              _, (hL0.keep (But.set (b := b7) _) (fun b e h => hd.l7 (e.trans h.symm))).keep (But.set (b := b4) _) (fun b e h => hd.l4 (e.trans h.symm)),
              fun b e => ⟨hd.tk b e, fun h => hd.lt b h e⟩, fun b e h => hd.lk b h e, (hss.put hb7σ _).put hb4 _⟩
          | cells bL cL rest _ h1 h2 h3 h5 h6 =>
            simp (maxSteps := 2000000) +contextual [e0, e22, e23, e24, e4, e5, e7, h4, hb4s, hb7s, n47, n74, -decide_eq_true_eq, -decide_eq_false_iff_not]
            exact ⟨_, SLe.refl _, dT, dK, _, ⟨rfl, rfl, rfl⟩, oT, (hT.keep (But.set (b := b7) _) (fun b e h => hd.t7 (e.trans h.symm))).keep (But.set (b := b4) _) (fun b e h => hd.t4 (e.trans h.symm)),
              oK, (hK.keep (But.set (b := b7) _) (fun b e h => hd.k7 (e.trans h.symm))).keep (But.set (b := b4) _) (fun b e h => hd.k4 (e.trans h.symm)),
              _, (hL0.keep (But.set (b := b7) _) (fun b e h => hd.l7 (e.trans h.symm))).keep (But.set (b := b4) _) (fun b e h => hd.l4 (e.trans h.symm)),
              fun b e => ⟨hd.tk b e, fun h => hd.lt b h e⟩, fun b e h => hd.lk b h e, (hss.put hb7σ _).put hb4 _⟩
def mofD (os : List Old) (ws : List Want) : D := .agg [.list ((mof os ws).take.map intD) .ro, .list ((mof os ws).kept.map natD) .ro, .list ((mof os ws).left.map natD) .ro]
theorem Wk.agg3 {a b c a' b' c' : D} (h1 : Wk a a') (h2 : Wk b b') (h3 : Wk c c') : Wk (.agg [a, b, c]) (.agg [a', b', c']) := by
  refine .agg _ _ rfl fun i d d' hd hd' => ?_
  match i with
  | 0 => simp at hd hd'; subst hd hd'; exact h1
  | 1 => simp at hd hd'; subst hd hd'; exact h2
  | 2 => simp at hd hd'; subst hd hd'; exact h3
  | n + 3 => simp at hd
theorem c_mof (os : List Old) (ws : List Want) (t0 t1 : Tok) (hos : os.length ≤ 1048576) (hws : ws.length ≤ 1048576) :
    Ret Try.prog 67 [.list (os.map oldD) t0, .list (ws.map wantD) t1] (mofD os ws) := by
  refine Ret.of fun σ => HCalls.weakS (HCalls.freezeA (HCalls.freezeA (HCalls.freezeA ((c_mof0 os ws t0 t1 σ hos hws).mono ?_))))
  rintro d s ⟨dT, dK, dL, oT, oK, oL, rfl, hT, hK, hL, h1, h2, hs⟩
  obtain ⟨s1, k1, a1, a2, a3, a4, -⟩ := hT.frz intD_length hs
  refine ⟨_, 0, dT, _, s1, rfl, rfl, a1, a4, ?_⟩
  have hK1 := hK.keep a3 fun b e h => (h1 b h).1 e
  have hL1 := hL.keep a3 fun b e h => (h1 b h).2 e
  obtain ⟨s2, k2, b1, b2, b3, b4, -⟩ := hK1.frz natD_length a2
  refine ⟨_, 1, dK, _, s2, rfl, rfl, b1, b4, ?_⟩
  have hL2 := hL1.keep b3 fun b e h => h2 b h e
  obtain ⟨s3, k3, c1, c2, c3, c4, -⟩ := hL2.frz natD_length b2
  refine ⟨_, 2, dL, _, s3, rfl, rfl, c1, c4, ?_⟩
  exact ⟨_, σ, Wk.agg3 (.list _ _) (.list _ _) (.list _ _), c2.swk, rfl, rfl⟩
end Go.HL
