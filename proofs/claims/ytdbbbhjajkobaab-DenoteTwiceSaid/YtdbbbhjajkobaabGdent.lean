/- The law DenoteTwice. -/
import Derived.Test.YtdbbbhjajkobaabGdenl
set_option linter.unusedVariables false
set_option linter.unusedSimpArgs false
set_option maxRecDepth 100000
set_option maxHeartbeats 8000000
namespace Go.HL
open Go.RowKit Go.Proofs

mutual
def stW : Want → Nat
  | .mk k _ _ _ _ ks => (if k = 3 then 1 else if k = 4 then 1 else 0) + stL ks
def stL : List Want → Nat
  | [] => 0
  | w :: r => stW w + stL r
end
theorem stW_eq (w : Want) : stW w = (if w.kind = 3 then 1 else if w.kind = 4 then 1 else 0) + stL w.kids := by cases w; rfl
theorem stL_append (a b : List Want) : stL (a ++ b) = stL a + stL b := by
  induction a with
  | nil => simp [stL]
  | cons w a ih => simp only [List.cons_append, stL, ih]; omega
theorem stL_mem {w : Want} {l : List Want} (h : w ∈ l) : stW w ≤ stL l := by
  induction l with
  | nil => simp at h
  | cons x l ih =>
    simp only [stL]
    rcases List.mem_cons.1 h with rfl | h
    · omega
    · have := ih h; omega
theorem stL_sz : ∀ (m : Nat) (l : List Want), szL l < m → stL l ≤ szL l := by
  intro m
  induction m with
  | zero => intro l h; omega
  | succ m ih =>
    intro l
    induction l with
    | nil => intro _; simp [stL]
    | cons w r ih2 =>
      intro h
      simp only [szL] at h ⊢
      have h2 := szW_eq w
      have h3 := ih w.kids (by omega)
      have h4 := ih2 (by omega)
      have h5 := stW_eq w
      simp only [stL]
      split at h5
      · omega
      · split at h5 <;> omega
mutual
def shW : Want → Tree → Bool
  | .mk _ t ke te _ ks, .mk t' te' ke' _ ks' => (((decide (t = t') && decide (ke = ke')) && decide (te = te'))) && shL ks ks'
def shL : List Want → List Tree → Bool
  | [], [] => true
  | w :: r, t :: s => shW w t && shL r s
  | _, _ => false
end
theorem shW_eq (w : Want) (t : Tree) : shW w t = ((((decide (w.tag = t.tag) && decide (w.key = t.key)) && decide (w.text = t.text))) && shL w.kids t.kids) := by cases w; cases t; rfl
theorem shL_len : ∀ {a : List Want} {b : List Tree}, shL a b = true → a.length = b.length := by
  intro a
  induction a with
  | nil => intro b h; cases b; rfl; simp [shL] at h
  | cons w a ih => intro b h; cases b with
    | nil => simp [shL] at h
    | cons t b => simp only [shL, Bool.and_eq_true] at h; simp [ih h.2]
theorem shL_all {a : List Want} {b : List Tree} (hl : a.length = b.length) (h : ∀ (i : Nat) (w : Want) (t : Tree), a[i]? = some w → b[i]? = some t → shW w t = true) : shL a b = true := by
  induction a generalizing b with
  | nil => cases b with
    | nil => rfl
    | cons t b => simp at hl
  | cons w a ih => cases b with
    | nil => simp at hl
    | cons t b =>
      simp only [shL, Bool.and_eq_true]
      exact ⟨h 0 w t rfl rfl, ih (by simpa using hl) fun i w' t' h1 h2 => h (i + 1) w' t' (by simpa using h1) (by simpa using h2)⟩
/-! The plain law. -/
def oneT (w : Want) (t : Int) (old : List Tree) : Tree := if w.kind = 2 then .mk ⟨#[]⟩ w.text ⟨#[]⟩ [] [] else elemT w.tag w.key w.attrs (den w.kids) (tkO old t)
theorem denW_one {w : Want} (h : stW w = 0) (ho : Ok1 w) (t : Int) (kept : List Nat) (old : List Tree) : denW w t kept old = [oneT w t old] := by
  rw [denW_eq]
  unfold oneT
  by_cases k2 : w.kind = 2
  · rw [if_pos k2, if_pos k2]
  · have hk := stW_eq w
    have hr := ho.kinds
    have k1 : w.kind = 1 := by
      by_cases k3 : w.kind = 3
      · rw [if_pos k3] at hk; omega
      · by_cases k4 : w.kind = 4
        · rw [if_neg k3, if_pos k4] at hk; omega
        · omega
    rw [if_neg k2, if_pos k1, if_neg k2]
theorem denL_ones {ws : List Want} (h : stL ws = 0) (ho : ∀ w ∈ ws, Ok1 w) (ts : List Int) (kept : List Nat) (old : List Tree) : (denL ws ts kept old).length = ws.length ∧ ∀ (i : Nat) (w : Want), ws[i]? = some w → (denL ws ts kept old)[i]? = some (oneT w (ts.getD i (-1)) old) := by
  induction ws generalizing ts with
  | nil => exact ⟨rfl, fun i w h => by simp at h⟩
  | cons v r ih =>
    simp only [stL] at h
    obtain ⟨i1, i2⟩ := ih (by omega) (fun w hw => ho w (by simp [hw])) ts.tail
    have hv := denW_one (w := v) (by omega) (ho v (by simp)) (ts.headD (-1)) kept old
    simp only [denL, hv, List.singleton_append, List.length_cons, i1, true_and]
    intro i w hw
    cases i with
    | zero => simp at hw; subst hw; cases ts <;> simp
    | succ i =>
      simp only [List.getElem?_cons_succ] at hw ⊢
      rw [i2 i w hw]
      cases ts <;> simp
theorem den_ones {ws : List Want} (h : stL ws = 0) (ho : ∀ w ∈ ws, Ok1 w) (old : List Tree) : (den ws old).length = ws.length ∧ ∀ (i : Nat) (w : Want), ws[i]? = some w → (den ws old)[i]? = some (oneT w ((mof (old.map oldT) ws).take.getD i (-1)) old) := denL_ones h ho _ _ _
/-- Each takes the one that stands at its place. -/
theorem st_own {ws : List Want} {os : List Old} (hl : os.length = ws.length) (h4 : ∀ w ∈ ws, w.kind ≠ 4) (ht : ∀ (i : Nat) (w : Want), ws[i]? = some w → takesP w (oAt os i) true = true) : ∀ i, i ≤ ws.length → (st os ws i).left = (List.range os.length).drop i ∧ ∀ k, k < i → (st os ws i).take[k]? = some (k : Int) := by
  intro i
  induction i with
  | zero => intro _; exact ⟨rfl, fun k h => by omega⟩
  | succ i ih =>
    intro hi
    obtain ⟨h1, h2⟩ := ih (by omega)
    have hw := List.getElem?_eq_getElem (show i < ws.length by omega)
    have hlt : i < (List.range os.length).length := by simp; omega
    have hd : (List.range os.length).drop i = i :: (List.range os.length).drop (i + 1) := by rw [List.drop_eq_getElem_cons hlt]; simp
    have hg : gAt os ws[i] (st os ws i).left = (i : Int) := by rw [h1, hd]; simp only [gAt]; rw [if_pos (ht i _ hw)]
    rw [st_succ os hw, mstep_g os _ _ (st_f os ws i).srt]
    simp only [hg]
    rw [if_neg (h4 _ (List.getElem_mem (by omega)))]
    refine ⟨?_, fun k hk => ?_⟩
    · rw [if_pos (by omega), h1, hd]; simp
    · have hln := st_len os ws i (by omega)
      by_cases hki : k < i
      · rw [List.getElem?_append_left (by omega)]; exact h2 k hki
      · have : k = i := by omega
        subst this
        rw [List.getElem?_append_right (by omega), hln]; simp
theorem st_zero4 {ws : List Want} (h : stL ws = 0) : ∀ w ∈ ws, stW w = 0 ∧ w.kind ≠ 4 := fun w hw => by
  have h1 := stL_mem hw
  have h2 := stW_eq w
  refine ⟨by omega, fun h4 => ?_⟩
  rw [if_neg (by omega), if_pos h4] at h2; omega
theorem kidsO_may {o : Option Tree} (h : ∀ x, o = some x → mayT x = true) : ∀ x ∈ kidsO o, mayT x = true := by
  cases o with
  | none => simp [kidsO]
  | some t =>
    intro x hx
    have := h t rfl
    rw [mayT_eq] at this
    simp only [kidsO] at hx
    split at this
    · simp only [Bool.and_eq_true, decide_eq_true_eq] at this
      have hk := this.1.2
      have := List.length_pos_of_mem hx
      omega
    · simp only [Bool.and_eq_true] at this
      rw [mayTs_all] at this
      exact List.all_eq_true.1 this.2 x hx
theorem attrsO_may {t : Tree} (h : mayT t = true) : mayAttrs t.attrs = true := by
  rw [mayT_eq] at h
  split at h
  · simp only [Bool.and_eq_true, decide_eq_true_eq] at h
    have : t.attrs = [] := List.length_eq_zero_iff.1 h.1.1.2
    rw [this]; rfl
  · simp only [Bool.and_eq_true] at h
    exact h.1.1.2
theorem elem_attrs {w : Want} {o : Option Tree} (hw : mayAttrs w.attrs = true) (ho : ∀ x, o = some x → mayT x = true) (sub : List Tree → List Tree) : mayAttrs (elemT w.tag w.key w.attrs sub o).attrs = true ∧ joinA (elemT w.tag w.key w.attrs sub o).attrs w.attrs = (elemT w.tag w.key w.attrs sub o).attrs := by
  cases o with
  | none =>
    have := hok w.attrs w.attrs hw hw
    exact ⟨this.2.1, this.2.2.2.1⟩
  | some t =>
    have := hok t.attrs w.attrs (attrsO_may (ho t rfl)) hw
    exact ⟨this.1, this.2.2.1⟩
theorem den_nil (old : List Tree) : den [] old = [] := rfl
theorem may_den : ∀ (n : Nat) (ws : List Want) (old : List Tree), szL ws < n → OkL ws → (∀ x ∈ old, mayT x = true) → ∀ t ∈ den ws old, mayT t = true := by
  intro n
  induction n with
  | zero => intro ws old h; omega
  | succ n ih =>
    intro ws old hn hok ho
    obtain ⟨o1, o2, -, -⟩ := hok.inv
    refine den_all (Q := fun x => mayT x = true) ho (by decide +kernel) (fun x h => h) (fun w hw k2 => ?_) fun w hw k1 o hQ => ?_
    · have := (o1 w hw).text k2
      rw [mayT_eq]
      simp [Tree.tag, Tree.key, Tree.attrs, Tree.kids, Tree.text, this]
    · obtain ⟨a1, a2, a3, a4⟩ := (o1 w hw).elem k1
      have hsz := sz_mem hw
      have hsz2 := szW_eq w
      have hkm := ih w.kids (kidsO o) (by omega) (o2 w hw) (kidsO_may hQ)
      have ha := (elem_attrs a3 hQ (den w.kids)).1
      have hne : w.tag ≠ ⟨#[]⟩ := fun h => by rw [h] at a1; revert a1; decide +kernel
      have e1 : (elemT w.tag w.key w.attrs (den w.kids) o).tag = w.tag := by rw [elemT_eq]; rfl
      have e2 : (elemT w.tag w.key w.attrs (den w.kids) o).key = w.key := by rw [elemT_eq]; rfl
      have e3 : (elemT w.tag w.key w.attrs (den w.kids) o).text = ⟨#[]⟩ := by rw [elemT_eq]; rfl
      have e4 : (elemT w.tag w.key w.attrs (den w.kids) o).kids = den w.kids (kidsO o) := by rw [elemT_eq]; rfl
      rw [mayT_eq, e1, if_neg hne, e2, e3, e4, ha, a1, a2, mayTs_all, List.all_eq_true.2 hkm]
      have hv : (voidN w.tag && decide (0 < (den w.kids (kidsO o)).length)) = false := by
        cases hv : voidN w.tag with
        | false => rfl
        | true => rw [a4 hv, den_nil]; rfl
      rw [hv]; rfl
theorem sh_den : ∀ (n : Nat) (ws : List Want) (old : List Tree), szL ws < n → OkL ws → stL ws = 0 → shL ws (den ws old) = true := by
  intro n
  induction n with
  | zero => intro ws old h; omega
  | succ n ih =>
    intro ws old hn hok h0
    obtain ⟨o1, o2, -, -⟩ := hok.inv
    obtain ⟨d1, d2⟩ := den_ones h0 o1 old
    refine shL_all d1.symm fun i w t hw ht => ?_
    rw [d2 i w hw] at ht
    injection ht with ht
    have hwm := List.mem_of_getElem? hw
    have hs := st_zero4 h0 w hwm
    have hsw := stW_eq w
    have hsz := sz_mem hwm
    have hsz2 := szW_eq w
    rw [← ht, shW_eq]
    unfold oneT
    by_cases k2 : w.kind = 2
    · rw [if_pos k2]
      obtain ⟨p1, p2, p3, p4⟩ := (o1 w hwm).plain (by omega)
      rw [p1, p2, p4]; simp [Tree.tag, Tree.key, Tree.text, Tree.kids, shL]
    · rw [if_neg k2]
      have p5 := (o1 w hwm).none k2
      generalize (mof (old.map oldT) ws).take.getD i (-1) = g
      rw [elemT_eq, p5]
      have := ih w.kids (kidsO (tkO old g)) (by omega) (o2 w hwm) (by omega)
      simp [Tree.tag, Tree.key, Tree.text, Tree.kids, this]
theorem den_twice : ∀ (n : Nat) (ws : List Want) (old : List Tree), szL ws < n → OkL ws → stL ws = 0 → (∀ x ∈ old, mayT x = true) → den ws (den ws old) = den ws old := by
  intro n
  induction n with
  | zero => intro ws old h; omega
  | succ n ih =>
    intro ws old hn hok h0 ho
    obtain ⟨o1, o2, -, -⟩ := hok.inv
    obtain ⟨d1, d2⟩ := den_ones h0 o1 old
    obtain ⟨t1, t2⟩ := den_ones h0 o1 (den ws old)
    have hos : ((den ws old).map oldT).length = ws.length := by simp [d1]
    have hget : ∀ (i : Nat) (w : Want), ws[i]? = some w → oAt ((den ws old).map oldT) i = oldT (oneT w ((mof (old.map oldT) ws).take.getD i (-1)) old) := fun i w hw => by
      rw [← oAt_def, List.getD_eq_getElem?_getD, List.getElem?_map, d2 i w hw]; rfl
    have htk := st_own hos (fun w hw => (st_zero4 h0 w hw).2) (fun i w hw => by
      rw [hget i w hw]
      have hwm := List.mem_of_getElem? hw
      have hs := st_zero4 h0 w hwm
      have hsw := stW_eq w
      have hk := (o1 w hwm).kinds
      unfold oneT takesP
      by_cases k2 : w.kind = 2
      · rw [if_pos k2, if_neg (by omega), if_pos k2]; simp [oldT, Tree.tag]
      · have k1 : w.kind = 1 := by
          by_cases k3 : w.kind = 3
          · rw [if_pos k3] at hsw; omega
          · omega
        rw [if_neg k2, if_pos k1, elemT_eq]; simp [oldT, Tree.tag, Tree.key]) ws.length (Nat.le_refl _)
    rw [st_all] at htk
    apply List.ext_getElem?
    intro i
    by_cases hi : i < ws.length
    · have hw := List.getElem?_eq_getElem hi
      have hwm := List.getElem_mem hi
      rw [t2 i _ hw, d2 i _ hw]
      have hti : (mof ((den ws old).map oldT) ws).take.getD i (-1) = (i : Int) := by rw [List.getD_eq_getElem?_getD, htk.2 i hi]; rfl
      rw [hti]
      congr 1
      unfold oneT
      by_cases k2 : ws[i].kind = 2
      · rw [if_pos k2, if_pos k2]
      · rw [if_neg k2, if_neg k2]
        have hto : tkO (den ws old) (i : Int) = some (elemT ws[i].tag ws[i].key ws[i].attrs (den ws[i].kids) (tkO old ((mof (old.map oldT) ws).take.getD i (-1)))) := by
          unfold tkO
          rw [if_pos (by omega)]
          congr 1
          unfold tAt
          rw [List.getD_eq_getElem?_getD, show ((i : Int).toNat) = i by omega, d2 i _ hw]
          unfold oneT
          rw [if_neg k2]; rfl
        rw [hto]
        have hs := st_zero4 h0 _ hwm
        have hsw := stW_eq ws[i]
        have hk := (o1 _ hwm).kinds
        have k1 : ws[i].kind = 1 := by
          by_cases k3 : ws[i].kind = 3
          · rw [if_pos k3] at hsw; omega
          · omega
        obtain ⟨a1, a2, a3, a4⟩ := (o1 _ hwm).elem k1
        have hom : ∀ x, tkO old ((mof (old.map oldT) ws).take.getD i (-1)) = some x → mayT x = true := fun x hx => by
          unfold tkO at hx
          split at hx
          · injection hx with hx; subst hx; exact tAt_all ho (by decide +kernel) _
          · cases hx
        have hj := (elem_attrs (w := ws[i]) a3 hom (den ws[i].kids)).2
        have hsz := sz_mem hwm
        have hsz2 := szW_eq ws[i]
        have hih := ih ws[i].kids (kidsO (tkO old ((mof (old.map oldT) ws).take.getD i (-1)))) (by omega) (o2 _ hwm) (by omega) (kidsO_may hom)
        generalize tkO old ((mof (old.map oldT) ws).take.getD i (-1)) = o at *
        have e4 : (elemT ws[i].tag ws[i].key ws[i].attrs (den ws[i].kids) o).kids = den ws[i].kids (kidsO o) := by rw [elemT_eq]; rfl
        show Tree.mk ws[i].tag ⟨#[]⟩ ws[i].key (joinA (elemT ws[i].tag ws[i].key ws[i].attrs (den ws[i].kids) o).attrs ws[i].attrs) (den ws[i].kids (elemT ws[i].tag ws[i].key ws[i].attrs (den ws[i].kids) o).kids) = _
        rw [hj, e4, hih, elemT_eq]
        rfl
    · rw [List.getElem?_eq_none (by omega), List.getElem?_eq_none (by omega)]
theorem stL_next {l : List Want} {i : Nat} {w : Want} (h : l[i]? = some w) : stL (l.take (i + 1)) = stL (l.take i) + stW w := by
  rw [take_next h, stL_append]; simp [stL]
theorem stL_le (l : List Want) (i : Nat) : stL (l.take i) ≤ stL l := by
  have := stL_append (l.take i) (l.drop i)
  rw [List.take_append_drop] at this; omega
theorem c_stays : ∀ (n : Nat) (l : List Want) (t0 : Tok), szL l < n → szL l ≤ 1048576 → Ret Try.prog 18 [.list (l.map wantD) t0] (.int .i64 (stL l)) := by
  intro n
  induction n with
  | zero => intro l t0 h; omega
  | succ n ih =>
    intro l t0 hn hsz
    refine Ret.of fun σ => ?_
    have hl := sz_len l
    have hst := stL_sz _ l (Nat.lt_succ_self _)
    refine HCalls.start mixed false _ _ (fn := Try.f18) (by kernel_rfl) rfl (by kernel_rfl) rfl (by kernel_rfl) (by kernel_rfl) ?_
    simp (maxSteps := 2000000) +contextual [-decide_eq_true_eq, -decide_eq_false_iff_not]
    refine hloop_fix (fun n e => ∃ i : Nat, i + n = l.length ∧ e 0 = .list (l.map wantD) t0 ∧ e 3 = .int .i64 (stL (l.take i)) ∧ e 4 = .int .i64 i) l.length ?_ ?_
    · refine ⟨0, by simp, ?_⟩
      simp (maxSteps := 2000000) +contextual [stL, -decide_eq_true_eq, -decide_eq_false_iff_not]
    · rintro m e ⟨i, hi, e0, e3, e4⟩
      by_cases h4 : i < l.length
      · obtain ⟨w, hw, hw2⟩ : ∃ w, l[i]? = some w ∧ l[i] = w := ⟨_, List.getElem?_eq_getElem h4, rfl⟩
        have hwm := List.mem_of_getElem? hw
        have hs1 := sz_mem hwm
        have hs2 := szW_eq w
        have hnx := stL_next hw
        have hle := stL_le l (i + 1)
        have hsw := stW_eq w
        by_cases k3 : w.kind = 3
        · rw [if_pos k3] at hsw
          have hw1 : IntKind.i64.wrap ((stL (l.take i) : Int) + 1) = (stL (l.take i) : Int) + 1 := by rw [wrap_i64] <;> omega
          simp (maxSteps := 2000000) +contextual [e0, e3, e4, h4, hw, hw2, wantD_length, wantD_eq w, decide_eq_true k3, hw1, -decide_eq_true_eq, -decide_eq_false_iff_not]
          refine ih w.kids .ro (by omega) (by omega) _ _ ?_
          simp (maxSteps := 2000000) +contextual [e0, e3, e4, -decide_eq_true_eq, -decide_eq_false_iff_not]
          exact ⟨m - 1, by omega, i + 1, by omega, by rw [wrap_i64] <;> omega, by rw [wrap_i64] <;> omega⟩
        · by_cases k4 : w.kind = 4
          · rw [if_neg k3, if_pos k4] at hsw
            have hw1 : IntKind.i64.wrap ((stL (l.take i) : Int) + 1) = (stL (l.take i) : Int) + 1 := by rw [wrap_i64] <;> omega
            simp (maxSteps := 2000000) +contextual [e0, e3, e4, h4, hw, hw2, wantD_length, wantD_eq w, decide_eq_false k3, decide_eq_true k4, hw1, -decide_eq_true_eq, -decide_eq_false_iff_not]
            refine ih w.kids .ro (by omega) (by omega) _ _ ?_
            simp (maxSteps := 2000000) +contextual [e0, e3, e4, -decide_eq_true_eq, -decide_eq_false_iff_not]
            exact ⟨m - 1, by omega, i + 1, by omega, by rw [wrap_i64] <;> omega, by rw [wrap_i64] <;> omega⟩
          · rw [if_neg k3, if_neg k4] at hsw
            simp (maxSteps := 2000000) +contextual [e0, e3, e4, h4, hw, hw2, wantD_length, wantD_eq w, decide_eq_false k3, decide_eq_false k4, -decide_eq_true_eq, -decide_eq_false_iff_not]
            refine ih w.kids .ro (by omega) (by omega) _ _ ?_
            simp (maxSteps := 2000000) +contextual [e0, e3, e4, -decide_eq_true_eq, -decide_eq_false_iff_not]
            exact ⟨m - 1, by omega, i + 1, by omega, by rw [wrap_i64] <;> omega, by rw [wrap_i64] <;> omega⟩
      · rw [List.take_of_length_le (by omega)] at e3
        simp (maxSteps := 2000000) +contextual [e0, e3, e4, h4, -decide_eq_true_eq, -decide_eq_false_iff_not]
theorem shL_drop (a : List Want) (b : List Tree) {i : Nat} (h : i < a.length) (h' : i < b.length) : shL (a.drop i) (b.drop i) = (shW a[i] b[i] && shL (a.drop (i + 1)) (b.drop (i + 1))) := by
  rw [List.drop_eq_getElem_cons h, List.drop_eq_getElem_cons h']; rfl
theorem c_shaped : ∀ (n : Nat) (l : List Want) (b : List Tree) (t0 t1 : Tok), szL l < n → szL l ≤ 1048576 → Ret Try.prog 19 [.list (l.map wantD) t0, .list (b.map treeD) t1] (.bool (shL l b)) := by
  intro n
  induction n with
  | zero => intro l b t0 t1 h; omega
  | succ n ih =>
    intro l b t0 t1 hn hsz
    refine Ret.of fun σ => ?_
    have hl := sz_len l
    refine HCalls.start mixed false _ _ (fn := Try.f19) (by kernel_rfl) rfl (by kernel_rfl) rfl (by kernel_rfl) (by kernel_rfl) ?_
    by_cases hlen : l.length = b.length
    · have hlen' : (l.length : Int) = b.length := by omega
      simp (maxSteps := 2000000) +contextual [hlen', -decide_eq_true_eq, -decide_eq_false_iff_not]
      refine hloop_fix (fun n e => ∃ i : Nat, i + n = l.length ∧ e 0 = .list (l.map wantD) t0 ∧ e 1 = .list (b.map treeD) t1 ∧ e 5 = .int .i64 i ∧ shL l b = shL (l.drop i) (b.drop i)) l.length ?_ ?_
      · refine ⟨0, by simp, ?_⟩
        simp (maxSteps := 2000000) +contextual [-decide_eq_true_eq, -decide_eq_false_iff_not]
      · rintro m e ⟨i, hi, e0, e1, e5, hq⟩
        by_cases h4 : i < l.length
        · have h4b : i < b.length := by omega
          obtain ⟨w, hw, hw2⟩ : ∃ w, l[i]? = some w ∧ l[i] = w := ⟨_, List.getElem?_eq_getElem h4, rfl⟩
          obtain ⟨x, hx, hx2⟩ : ∃ x, b[i]? = some x ∧ b[i] = x := ⟨_, List.getElem?_eq_getElem h4b, rfl⟩
          have hs1 := sz_mem (List.mem_of_getElem? hw)
          have hs2 := szW_eq w
          rw [shL_drop _ _ h4 h4b, hw2, hx2, shW_eq] at hq
          simp (maxSteps := 2000000) +contextual [e0, e1, e5, h4, -decide_eq_true_eq, -decide_eq_false_iff_not]
          refine hdraw_intro (by kernel_rfl) ?_
          by_cases q1 : w.tag = x.tag
          · by_cases q2 : w.key = x.key
            · by_cases q3 : w.text = x.text
              · simp (maxSteps := 2000000) +contextual [e0, e1, e5, h4, h4b, hw, hw2, hx, hx2, wantD_length, treeD_length, wantD_eq w, treeD_eq x, decide_eq_true q1, decide_eq_true q2, decide_eq_true q3, -decide_eq_true_eq, -decide_eq_false_iff_not]
                refine ih w.kids x.kids .ro .ro (by omega) (by omega) _ _ ?_
                rw [decide_eq_true q1, decide_eq_true q2, decide_eq_true q3] at hq
                cases hv : shL w.kids x.kids with
                | true =>
                  rw [hv] at hq
                  simp (maxSteps := 2000000) +contextual [e0, e1, e5, -decide_eq_true_eq, -decide_eq_false_iff_not]
                  exact ⟨m - 1, by omega, i + 1, by omega, by rw [wrap_i64] <;> omega, by simpa using hq⟩
                | false =>
                  rw [hv] at hq
                  have hq : shL l b = false := by simpa using hq
                  simp (maxSteps := 2000000) +contextual [e0, e1, e5, hq, -decide_eq_true_eq, -decide_eq_false_iff_not]
              · rw [decide_eq_false q3] at hq
                have hq : shL l b = false := by simpa using hq
                simp (maxSteps := 2000000) +contextual [e0, e1, e5, h4, h4b, hw, hw2, hx, hx2, wantD_length, treeD_length, wantD_eq w, treeD_eq x, decide_eq_true q1, decide_eq_true q2, decide_eq_false q3, hq, -decide_eq_true_eq, -decide_eq_false_iff_not]
            · rw [decide_eq_false q2] at hq
              have hq : shL l b = false := by simpa using hq
              simp (maxSteps := 2000000) +contextual [e0, e1, e5, h4, h4b, hw, hw2, hx, hx2, wantD_length, treeD_length, wantD_eq w, treeD_eq x, decide_eq_true q1, decide_eq_false q2, hq, -decide_eq_true_eq, -decide_eq_false_iff_not]
          · rw [decide_eq_false q1] at hq
            have hq : shL l b = false := by simpa using hq
            simp (maxSteps := 2000000) +contextual [e0, e1, e5, h4, h4b, hw, hw2, hx, hx2, wantD_length, treeD_length, wantD_eq w, treeD_eq x, decide_eq_false q1, hq, -decide_eq_true_eq, -decide_eq_false_iff_not]
        · rw [List.drop_eq_nil_of_le (by omega), List.drop_eq_nil_of_le (by omega)] at hq
          have hq : shL l b = true := hq
          simp (maxSteps := 2000000) +contextual [e0, e1, e5, h4, hq, -decide_eq_true_eq, -decide_eq_false_iff_not]
    · have hlen' : ¬ (l.length : Int) = b.length := by omega
      have : shL l b = false := by
        cases h : shL l b with
        | false => rfl
        | true => exact absurd (shL_len h) hlen
      simp (maxSteps := 2000000) +contextual [hlen', this, -decide_eq_true_eq, -decide_eq_false_iff_not]
theorem c_lawD2 (l : List Ins) (old : List Tree) (t0 t1 : Tok) : Ret Try.prog 4 [.list (l.map insD) t0, .list (old.map treeD) t1] (.bool true) := by
  refine Ret.of fun σ => ?_
  refine HCalls.start mixed false _ _ (fn := Try.f4) (by kernel_rfl) rfl (by kernel_rfl) rfl (by kernel_rfl) (by kernel_rfl) ?_
  simp (maxSteps := 2000000) +contextual [-decide_eq_true_eq, -decide_eq_false_iff_not]
  refine c_up17 _ _ ?_
  simp (maxSteps := 2000000) +contextual [-decide_eq_true_eq, -decide_eq_false_iff_not]
  refine c_wants17 l old t0 t1 _ _ ?_
  unfold wants17D
  by_cases hw : wants17 l old
  · rw [if_pos hw]
    have hsz := someP_sz l
    have hl := (fewI_fits hw.1.1.1).1
    have hok := ok_of hw.2
    obtain ⟨g1, g2⟩ := manyTs_small (l := old) (most := 60) (by omega) hw.1.1.2
    have hm := hw.1.1.2
    have hmay : ∀ x ∈ old, mayT x = true := by have := hw.1.2; rw [mayTs_all] at this; exact List.all_eq_true.1 this
    generalize (someP l).1 = ws at *
    have hol := cntTs_len old
    obtain ⟨f1, f2⟩ := fit_den _ ws old (Nat.lt_succ_self _) (by omega) hok (by omega) g2
    have hmd := may_den _ ws old (Nat.lt_succ_self _) hok hmay
    have hsh := sh_den _ ws old (Nat.lt_succ_self _) hok
    have htw := fun h => den_twice _ ws old (Nat.lt_succ_self _) hok h hmay
    simp (maxSteps := 2000000) +contextual [-decide_eq_true_eq, -decide_eq_false_iff_not]
    refine c_den _ ws old .ro t1 (Nat.lt_succ_self _) (by omega) (by omega) g2 _ _ ?_
    generalize den ws old = T at *
    have he : eqTs T T = true := (eqTs_iff _ _ _ (Nat.lt_succ_self _)).2 rfl
    simp (maxSteps := 2000000) +contextual [-decide_eq_true_eq, -decide_eq_false_iff_not]
    refine hloop_cut 0 (fun e s => s = σ ∧ e 5 = .bool true ∧ e 6 = .list (ws.map wantD) .ro ∧ e 8 = .list (T.map treeD) .ro) ?_ ?_
    · refine hloop_fix (fun n e => ∃ i : Nat, i + n = T.length ∧ e 5 = .bool true ∧ e 6 = .list (ws.map wantD) .ro ∧ e 8 = .list (T.map treeD) .ro ∧ e 9 = .int .i64 i) T.length ?_ ?_
      · refine ⟨0, by simp, ?_⟩
        simp (maxSteps := 2000000) +contextual [-decide_eq_true_eq, -decide_eq_false_iff_not]
      · rintro m e ⟨i, hi, e5, e6, e8, e9⟩
        by_cases h4 : i < T.length
        · obtain ⟨x, hx, hx2⟩ : ∃ x, T[i]? = some x ∧ T[i] = x := ⟨_, List.getElem?_eq_getElem h4, rfl⟩
          have hxm := List.mem_of_getElem? hx
          simp (maxSteps := 2000000) +contextual [e5, e6, e8, e9, h4, hx, hx2, treeD_length, -decide_eq_true_eq, -decide_eq_false_iff_not]
          refine c_rtmay _ x (Nat.lt_succ_self _) (f2 x hxm) _ _ ?_
          rw [hmd x hxm]
          simp (maxSteps := 2000000) +contextual [e5, e6, e8, e9, -decide_eq_true_eq, -decide_eq_false_iff_not]
          exact ⟨m - 1, by omega, i + 1, by omega, by rw [wrap_i64] <;> omega⟩
        · simp (maxSteps := 2000000) +contextual [e5, e6, e8, e9, h4, -decide_eq_true_eq, -decide_eq_false_iff_not]
    · rintro e s ⟨rfl, e5, e6, e8⟩
      simp (maxSteps := 2000000) +contextual [e5, e6, e8, -decide_eq_true_eq, -decide_eq_false_iff_not]
      refine c_stays _ ws .ro (Nat.lt_succ_self _) (by omega) _ _ ?_
      by_cases h0 : stL ws = 0
      · have h0' : ¬ 0 < stL ws := by omega
        have hsh := hsh h0
        have htw := htw h0
        simp (maxSteps := 2000000) +contextual [e5, e6, e8, decide_eq_false h0', -decide_eq_true_eq, -decide_eq_false_iff_not]
        refine c_shaped _ ws T .ro .ro (Nat.lt_succ_self _) (by omega) _ _ ?_
        rw [hsh]
        simp (maxSteps := 2000000) +contextual [e5, e6, e8, -decide_eq_true_eq, -decide_eq_false_iff_not]
        refine c_den _ ws T .ro .ro (Nat.lt_succ_self _) (by omega) f1 f2 _ _ ?_
        rw [htw]
        simp (maxSteps := 2000000) +contextual [e5, e6, e8, -decide_eq_true_eq, -decide_eq_false_iff_not]
        refine c_alike8 _ _ _ _ f1 f2 _ _ ?_
        rw [he]
        simp (maxSteps := 2000000) +contextual [-decide_eq_true_eq, -decide_eq_false_iff_not]
      · have h0' : 0 < stL ws := by omega
        simp (maxSteps := 2000000) +contextual [e5, e6, e8, decide_eq_true h0', -decide_eq_true_eq, -decide_eq_false_iff_not]
  · rw [if_neg hw]
    simp (maxSteps := 2000000) +contextual [-decide_eq_true_eq, -decide_eq_false_iff_not]
end Go.HL
