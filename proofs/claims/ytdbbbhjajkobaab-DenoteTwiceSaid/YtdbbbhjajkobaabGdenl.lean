/- The laws of layer 17: what both call, and DenoteTells. -/
import Derived.Test.YtdbbbhjajkobaabGdenr
import Derived.Test.YtdbbbhjajkobaabGlawk
set_option linter.unusedVariables false
set_option linter.unusedSimpArgs false
set_option maxRecDepth 100000
set_option maxHeartbeats 8000000
namespace Go.HL
open Go.RowKit Go.Proofs

theorem c_all8 (l : List Tree) (t0 : Tok) (most : Int) (h0 : 0 ≤ most) (hb : most ≤ 1048575) : Ret Try.prog 64 [.list (l.map treeD) t0, .int .i64 most] (.int .i64 (manyTs l 0 most)) := by
  refine Ret.of fun σ => ?_
  refine HCalls.start mixed false _ _ (fn := Try.f64) (by kernel_rfl) rfl (by kernel_rfl) rfl (by kernel_rfl) (by kernel_rfl) ?_
  simp (maxSteps := 2000000) +contextual [-decide_eq_true_eq, -decide_eq_false_iff_not]
  refine hloop_fix (fun n e => ∃ (i : Nat) (k : Int), i + n = l.length ∧ e 0 = .list (l.map treeD) t0 ∧ e 1 = .int .i64 most ∧ e 5 = .int .i64 k ∧ e 6 = .int .i64 i ∧ (i : Int) ≤ k ∧ k ≤ most + 1 ∧ manyTs l 0 most = manyTs (l.drop i) k most) l.length ?_ ?_
  · refine ⟨0, 0, by simp, ?_⟩
    simp (maxSteps := 2000000) +contextual [-decide_eq_true_eq, -decide_eq_false_iff_not]
    omega
  · rintro m e ⟨i, k, hi, e0, e1, e5, e6, hk1, hk2, hq⟩
    by_cases h4 : i < l.length
    · obtain ⟨x, hx, hx2⟩ : ∃ x, l[i]? = some x ∧ l[i] = x := ⟨_, List.getElem?_eq_getElem h4, rfl⟩
      rw [List.drop_eq_getElem_cons h4, hx2] at hq
      simp only [manyTs] at hq
      by_cases hkm : k ≤ most
      · rw [if_pos hkm] at hq
        have r1 := manyT_rng x (most := most - k) (by omega)
        have hw1 : IntKind.i64.wrap (most - k) = most - k := by rw [wrap_i64] <;> omega
        have hw2 : IntKind.i64.wrap (k + manyT x (most - k)) = k + manyT x (most - k) := by rw [wrap_i64] <;> omega
        simp (maxSteps := 2000000) +contextual [e0, e1, e5, e6, h4, decide_eq_true hkm, hx, hx2, treeD_length, hw1, -decide_eq_true_eq, -decide_eq_false_iff_not]
        refine c_many _ x (most - k) (Nat.lt_succ_self _) (by omega) (by omega) _ _ ?_
        simp (maxSteps := 2000000) +contextual [e0, e1, e5, e6, hw2, -decide_eq_true_eq, -decide_eq_false_iff_not]
        exact ⟨m - 1, by omega, i + 1, by omega, by rw [wrap_i64] <;> omega, by omega, by omega, hq⟩
      · rw [if_neg hkm] at hq
        simp (maxSteps := 2000000) +contextual [e0, e1, e5, e6, h4, decide_eq_false hkm, -decide_eq_true_eq, -decide_eq_false_iff_not]
        exact hq.symm
    · rw [List.drop_eq_nil_of_le (by omega)] at hq
      simp (maxSteps := 2000000) +contextual [e0, e1, e5, e6, h4, -decide_eq_true_eq, -decide_eq_false_iff_not]
      exact hq.symm
theorem manyTs_small {l : List Tree} {most : Int} (hb : most ≤ 1048575) (h : manyTs l 0 most ≤ most) : manyTs l 0 most = cntTs l ∧ ∀ t ∈ l, FitT t := by
  have := (many_small (cntTs l + 1)).2 l (by omega) 0 most (by omega) hb h
  exact ⟨by omega, this.2⟩
theorem c_alike8 (A B : List Tree) (t1 t2 : Tok) (hl : A.length ≤ 1048576) (hA : ∀ t ∈ A, FitT t) : Ret Try.prog 13 [.list (A.map treeD) t1, .list (B.map treeD) t2] (.bool (eqTs A B)) := by
  refine Ret.of fun σ => ?_
  have w1 := Wk.tree (a := ⟨#[]⟩) (b := ⟨#[]⟩) (c := ⟨#[]⟩) (attrs := []) (kids := A) (da := .list [] .nil) (.list _ _) (.list _ t1)
  have w2 := Wk.tree (a := ⟨#[]⟩) (b := ⟨#[]⟩) (c := ⟨#[]⟩) (attrs := []) (kids := B) (da := .list [] .nil) (.list _ _) (.list _ t2)
  have hf : FitT (.mk ⟨#[]⟩ ⟨#[]⟩ ⟨#[]⟩ [] A) := .mk _ (show (ByteArray.mk #[]).size ≤ 1048576 ∧ (ByteArray.mk #[]).size ≤ 1048576 ∧ (ByteArray.mk #[]).size ≤ 1048576 by decide) ⟨by simp [Tree.attrs], by simp [Tree.attrs]⟩ hl hA
  have he : eqT (.mk ⟨#[]⟩ ⟨#[]⟩ ⟨#[]⟩ [] A) (.mk ⟨#[]⟩ ⟨#[]⟩ ⟨#[]⟩ [] B) = eqTs A B := by rw [eqT_eq]; simp [Tree.tag, Tree.text, Tree.key, Tree.attrs, Tree.kids]
  refine HCalls.start mixed false _ _ (fn := Try.f13) (by kernel_rfl) rfl (by kernel_rfl) rfl (by kernel_rfl) (by kernel_rfl) ?_
  simp (maxSteps := 2000000) +contextual [-decide_eq_true_eq, -decide_eq_false_iff_not]
  refine HCalls.pre2 w1 w2 (c_rtsame _ _ _ (Nat.lt_succ_self _) hf _ _ ?_)
  rw [he]
  simp (maxSteps := 2000000) +contextual [-decide_eq_true_eq, -decide_eq_false_iff_not]
def wants17 (l : List Ins) (old : List Tree) : Prop := ((fewI l = true ∧ manyTs old 0 60 ≤ 60) ∧ mayTs old = true) ∧ chkP l = 0
instance (l : List Ins) (old : List Tree) : Decidable (wants17 l old) := by unfold wants17; infer_instance
def wants17D (l : List Ins) (old : List Tree) : D := if wants17 l old then .tup [.list ((someP l).1.map wantD) .ro, .bool true] else .tup [.list [] .ro, .bool false]
theorem c_wants17 (l : List Ins) (old : List Tree) (t0 t1 : Tok) : Ret Try.prog 12 [.list (l.map insD) t0, .list (old.map treeD) t1] (wants17D l old) := by
  refine Ret.weak fun σ => ?_
  unfold wants17D
  have no : ∀ tk, ¬ wants17 l old → Wk (.tup [.list [] tk, .bool false]) (if wants17 l old then .tup [.list ((someP l).1.map wantD) .ro, .bool true] else .tup [.list [] .ro, .bool false]) := fun tk h => by rw [if_neg h]; exact Wk.two (.list _ _) (.refl _)
  refine HCalls.start mixed false _ _ (fn := Try.f12) (by kernel_rfl) rfl (by kernel_rfl) rfl (by kernel_rfl) (by kernel_rfl) ?_
  simp (maxSteps := 2000000) +contextual [-decide_eq_true_eq, -decide_eq_false_iff_not]
  refine c_few12 l t0 _ _ ?_
  cases hfew : fewI l with
  | false =>
    simp (maxSteps := 2000000) +contextual [-decide_eq_true_eq, -decide_eq_false_iff_not]
    exact no .nil (by simp [wants17, hfew])
  | true =>
    simp (maxSteps := 2000000) +contextual [-decide_eq_true_eq, -decide_eq_false_iff_not]
    refine c_all8 old t1 60 (by omega) (by omega) _ _ ?_
    by_cases hm : 60 < manyTs old 0 60
    · simp (maxSteps := 2000000) +contextual [decide_eq_true hm, -decide_eq_true_eq, -decide_eq_false_iff_not]
      exact no .nil (by intro h; have := h.1.1.2; omega)
    · simp (maxSteps := 2000000) +contextual [decide_eq_false hm, -decide_eq_true_eq, -decide_eq_false_iff_not]
      obtain ⟨g1, g2⟩ := manyTs_small (l := old) (most := 60) (by omega) (by omega)
      have hol := cntTs_len old
      refine hloop_fix (fun n e => ∃ i : Nat, i + n = old.length ∧ e 0 = .list (l.map insD) t0 ∧ e 1 = .list (old.map treeD) t1 ∧ e 6 = .int .i64 i ∧ mayTs old = mayTs (old.drop i)) old.length ?_ ?_
      · refine ⟨0, by simp, ?_⟩
        simp (maxSteps := 2000000) +contextual [-decide_eq_true_eq, -decide_eq_false_iff_not]
      · rintro m e ⟨i, hi, e0, e1, e6, hq⟩
        by_cases h4 : i < old.length
        · obtain ⟨x, hx, hx2⟩ : ∃ x, old[i]? = some x ∧ old[i] = x := ⟨_, List.getElem?_eq_getElem h4, rfl⟩
          rw [mayTs_drop _ h4, hx2] at hq
          simp (maxSteps := 2000000) +contextual [e0, e1, e6, h4, hx, hx2, treeD_length, -decide_eq_true_eq, -decide_eq_false_iff_not]
          refine c_rtmay _ x (Nat.lt_succ_self _) (g2 x (List.mem_of_getElem? hx)) _ _ ?_
          cases hmx : mayT x with
          | false =>
            rw [hmx, Bool.false_and] at hq
            simp (maxSteps := 2000000) +contextual [e0, e1, e6, -decide_eq_true_eq, -decide_eq_false_iff_not]
            exact no .nil (by intro h; have := h.1.2; rw [hq] at this; cases this)
          | true =>
            rw [hmx, Bool.true_and] at hq
            simp (maxSteps := 2000000) +contextual [e0, e1, e6, -decide_eq_true_eq, -decide_eq_false_iff_not]
            exact ⟨m - 1, by omega, i + 1, by omega, by rw [wrap_i64] <;> omega, hq⟩
        · rw [List.drop_eq_nil_of_le (by omega)] at hq
          simp (maxSteps := 2000000) +contextual [e0, e1, e6, h4, -decide_eq_true_eq, -decide_eq_false_iff_not]
          refine c_wof l t0 (fewI_fit hfew) _ _ ?_
          unfold ofD
          by_cases h : chkP l = 0
          · rw [if_pos h]
            have hw : wants17 l old := ⟨⟨⟨hfew, by omega⟩, hq⟩, h⟩
            rw [if_pos hw]
            simp (maxSteps := 2000000) +contextual [e0, e1, e6, -decide_eq_true_eq, -decide_eq_false_iff_not]
            refine hdraw_intro (by kernel_rfl) ?_
            simp (maxSteps := 2000000) +contextual [-decide_eq_true_eq, -decide_eq_false_iff_not]
            exact Wk.refl _
          · have he : errD (chkP l) = .lit (.iface 62 (.int .i64 (chkP l))) := by simp [errD, h]
            rw [if_neg h, he]
            simp (maxSteps := 2000000) +contextual [e0, e1, e6, -decide_eq_true_eq, -decide_eq_false_iff_not]
            refine hdraw_intro (by kernel_rfl) ?_
            simp (maxSteps := 2000000) +contextual [-decide_eq_true_eq, -decide_eq_false_iff_not]
            exact no .nil (by intro hh; exact h hh.2)
def nulT : Tree := .mk ⟨#[]⟩ ⟨#[]⟩ ⟨#[]⟩ [] []
theorem tAt_all {P : Tree → Prop} {old : List Tree} (h : ∀ x ∈ old, P x) (hd : P nulT) (i : Nat) : P (tAt old i) := by
  unfold tAt
  rw [List.getD_eq_getElem?_getD]
  cases hx : old[i]? with
  | none => exact hd
  | some x => exact h x (List.mem_of_getElem? hx)
theorem den_all {Q P : Tree → Prop} {ws : List Want} {old : List Tree} (h0 : ∀ x ∈ old, Q x) (hd : Q nulT) (hQ : ∀ x, Q x → P x) (h2 : ∀ w ∈ ws, w.kind = 2 → P (.mk ⟨#[]⟩ w.text ⟨#[]⟩ [] []))
    (h1 : ∀ w ∈ ws, w.kind = 1 → ∀ o, (∀ x, o = some x → Q x) → P (elemT w.tag w.key w.attrs (den w.kids) o)) : ∀ t ∈ den ws old, P t := by
  unfold den
  generalize (mof (old.map oldT) ws).take = ts
  generalize (mof (old.map oldT) ws).kept = kept
  induction ws generalizing ts with
  | nil => intro t ht; simp [denL] at ht
  | cons w r ih =>
    intro t ht
    simp only [denL, List.mem_append] at ht
    rcases ht with ht | ht
    · rw [denW_eq] at ht
      split at ht
      · rename_i k2; simp at ht; subst ht; exact h2 w (by simp) k2
      · split at ht
        · rename_i k1
          simp at ht; subst ht
          refine h1 w (by simp) k1 _ fun x hx => ?_
          unfold tkO at hx
          split at hx
          · injection hx with hx; subst hx; exact tAt_all h0 hd _
          · cases hx
        · split at ht
          · unfold tkO at ht
            split at ht
            · simp at ht; subst ht; exact hQ _ (tAt_all h0 hd _)
            · simp at ht
          · split at ht
            · obtain ⟨k, -, rfl⟩ := List.mem_map.1 ht; exact hQ _ (tAt_all h0 hd _)
            · simp at ht
    · exact ih (fun w hw => h2 w (by simp [hw])) (fun w hw => h1 w (by simp [hw])) ts.tail t ht
theorem may_fits {l : List Attr} (h : mayAttrs l = true) : FitsA l := by
  obtain ⟨h1, h2, -⟩ := (mayA_iff l).1 h
  exact ⟨by omega, fun a ha => ⟨by have := mayName_le (h2 a ha).1; omega, by have := mayText_le (h2 a ha).2; omega⟩⟩
theorem OkL.inv {ws : List Want} (h : OkL ws) : (∀ w ∈ ws, Ok1 w) ∧ (∀ w ∈ ws, OkL w.kids) ∧ LastAll ws ∧ KeysNd ws := by
  cases h with
  | mk _ h1 h2 h3 h4 => exact ⟨h1, h2, h3, h4⟩
theorem nul_fit : FitT nulT := fit_leaf _ (by decide) rfl rfl
theorem den_len (ws : List Want) (old : List Tree) : (den ws old).length ≤ ws.length * (1 + old.length) := by
  have h1 := denL_len ws (mof (old.map oldT) ws).take (mof (old.map oldT) ws).kept old
  have h2 := mof_kept (old.map oldT) ws
  rw [List.length_map] at h2
  exact Nat.le_trans h1 (Nat.mul_le_mul_left _ (by omega))
theorem fit_den : ∀ (n : Nat) (ws : List Want) (old : List Tree), szL ws < n → szL ws ≤ 1000 → OkL ws → cntTs old ≤ 1000 → (∀ x ∈ old, FitT x) → (den ws old).length ≤ 1048576 ∧ ∀ t ∈ den ws old, FitT t := by
  intro n
  induction n with
  | zero => intro ws old h; omega
  | succ n ih =>
    intro ws old hn hs hok hc ho
    obtain ⟨o1, o2, -, -⟩ := hok.inv
    have hwl := sz_len ws
    have hol := cntTs_len old
    refine ⟨?_, den_all (Q := fun x => FitT x ∧ cntT x ≤ 1000) (fun x hx => ⟨ho x hx, by have := cntT_mem hx; omega⟩) ⟨nul_fit, by decide⟩ (fun x h => h.1) (fun w hw k2 => ?_) fun w hw k1 o hQ => ?_⟩
    · have h1 := den_len ws old
      have h2 : ws.length * (1 + old.length) ≤ 1000 * 1001 := Nat.mul_le_mul (by omega) (by omega)
      omega
    · have := mayText_le ((o1 w hw).text k2)
      exact fit_leaf _ ⟨(show (ByteArray.mk #[]).size ≤ 1048576 by decide), (by show w.text.size ≤ 1048576; omega), (show (ByteArray.mk #[]).size ≤ 1048576 by decide)⟩ rfl rfl
    · obtain ⟨a1, a2, a3, -⟩ := (o1 w hw).elem k1
      have hf := may_fits a3
      have b1 := mayName_le a1
      have b2 := mayText_le a2
      have hsz := sz_mem hw
      have hsz2 := szW_eq w
      have hk : cntTs (kidsO o) ≤ 1000 ∧ ∀ x ∈ kidsO o, FitT x := by
        cases o with
        | none => exact ⟨by simp [kidsO, cntTs], by simp [kidsO]⟩
        | some x => have := hQ x rfl; have h2 := cntT_eq x; exact ⟨by show cntTs x.kids ≤ _; omega, this.1.inv.2.2.2⟩
      obtain ⟨i1, i2⟩ := ih w.kids (kidsO o) (by omega) (by omega) (o2 w hw) hk.1 hk.2
      rw [elemT_eq]
      refine .mk _ ⟨(by show w.tag.size ≤ 1048576; omega), (show (ByteArray.mk #[]).size ≤ 1048576 by decide), (by show w.key.size ≤ 1048576; omega)⟩ ?_ i1 i2
      cases o with
      | none => exact new_fits hf (by have := hf.1; have := (mayA_iff w.attrs).1 a3; omega)
      | some x => exact join_fits (hQ x rfl).1.inv.2.1 hf
def upD17 : Want := .mk 2 ⟨#[]⟩ ⟨#[]⟩ ⟨#[98]⟩ [] []
def upA17 : Want := .mk 4 ⟨#[]⟩ ⟨#[]⟩ ⟨#[]⟩ [] []
theorem up17_a : den [upD17] [upA] = [.mk ⟨#[]⟩ ⟨#[98]⟩ ⟨#[]⟩ [] []] := by
  unfold den
  simp only [denL, denW_eq, List.append_nil]
  rfl
theorem up17_m : (mof [oldT upA] [upA17]).kept = [0] := by decide +kernel
theorem up17_b : (den [upA17] [upA]).length = 1 := by
  unfold den
  simp only [denL, denW_eq, List.append_nil, List.map_cons, List.map_nil, up17_m]
  rfl
theorem c_up17 : Ret Try.prog 11 [] (.bool true) := by
  refine Ret.of fun σ => ?_
  have k1 := wantT_wk [⟨upD17, .nil, .nil⟩] .full
  have k2 := wantT_wk [⟨upA17, .nil, .nil⟩] .full
  have k3 := treeT_wk [⟨upA, .nil, .nil⟩] .full
  have fa : ∀ x ∈ [upA], FitT x := fun x hx => by simp at hx; subst hx; exact fit_leaf _ (by decide) rfl rfl
  refine HCalls.start mixed false _ _ (fn := Try.f11) (by kernel_rfl) rfl (by kernel_rfl) rfl (by kernel_rfl) (by kernel_rfl) ?_
  simp (maxSteps := 2000000) +contextual [-decide_eq_true_eq, -decide_eq_false_iff_not]
  refine HCalls.pre2 k1 k3 (c_den _ [upD17] [upA] .ro .ro (Nat.lt_succ_self _) (by decide) (by decide) fa _ _ ?_)
  rw [up17_a]
  simp (maxSteps := 2000000) +contextual [treeD_eq, Tree.tag, Tree.text, Tree.key, Tree.attrs, Tree.kids, -decide_eq_true_eq, -decide_eq_false_iff_not]
  refine HCalls.pre2 k2 k3 (c_den _ [upA17] [upA] .ro .ro (Nat.lt_succ_self _) (by decide) (by decide) fa _ _ ?_)
  have hb := up17_b
  simp (maxSteps := 2000000) +contextual [hb, -decide_eq_true_eq, -decide_eq_false_iff_not]
theorem c_lawDT (l : List Ins) (old : List Tree) (t0 t1 : Tok) : Ret Try.prog 3 [.list (l.map insD) t0, .list (old.map treeD) t1] (.bool true) := by
  refine Ret.of fun σ => ?_
  refine HCalls.start mixed false _ _ (fn := Try.f3) (by kernel_rfl) rfl (by kernel_rfl) rfl (by kernel_rfl) (by kernel_rfl) ?_
  simp (maxSteps := 2000000) +contextual [-decide_eq_true_eq, -decide_eq_false_iff_not]
  refine c_up17 _ _ ?_
  simp (maxSteps := 2000000) +contextual [-decide_eq_true_eq, -decide_eq_false_iff_not]
  refine c_wants17 l old t0 t1 _ _ ?_
  unfold wants17D
  by_cases hw : wants17 l old
  · rw [if_pos hw]
    have hsz := someP_sz l
    have hl := (fewI_fits hw.1.1.1).1
    have hok := ok_of hw.2
    obtain ⟨g1, g2⟩ := manyTs_small (l := old) (most := 60) (by omega) hw.1.1.2
    have hm := hw.1.1.2
    generalize (someP l).1 = ws at *
    have hol := cntTs_len old
    obtain ⟨f1, f2⟩ := fit_den _ ws old (Nat.lt_succ_self _) (by omega) hok (by omega) g2
    have he : eqTs (den ws old) (den ws old) = true := (eqTs_iff _ _ _ (Nat.lt_succ_self _)).2 rfl
    simp (maxSteps := 2000000) +contextual [-decide_eq_true_eq, -decide_eq_false_iff_not]
    refine c_den _ ws old .ro t1 (Nat.lt_succ_self _) (by omega) (by omega) g2 _ _ ?_
    simp (maxSteps := 2000000) +contextual [-decide_eq_true_eq, -decide_eq_false_iff_not]
    refine c_as _ ws .ro (Nat.lt_succ_self _) (by omega) _ _ ?_
    simp (maxSteps := 2000000) +contextual [-decide_eq_true_eq, -decide_eq_false_iff_not]
    refine c_rtrees _ ws old .ro t1 (Nat.lt_succ_self _) (by omega) (by omega) g2 _ _ ?_
    simp (maxSteps := 2000000) +contextual [-decide_eq_true_eq, -decide_eq_false_iff_not]
    refine c_alike8 _ _ _ _ f1 f2 _ _ ?_
    rw [he]
    simp (maxSteps := 2000000) +contextual [-decide_eq_true_eq, -decide_eq_false_iff_not]
  · rw [if_neg hw]
    simp (maxSteps := 2000000) +contextual [-decide_eq_true_eq, -decide_eq_false_iff_not]
end Go.HL
