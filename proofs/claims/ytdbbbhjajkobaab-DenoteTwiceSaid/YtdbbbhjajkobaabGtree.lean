/- Trees: what the program's layer 8 tells of them, and the document's answer. -/
import Derived.Test.YtdbbbhjajkobaabGvref
import Derived.Test.YtdbbbhjajkobaabGattr
import Derived.Test.YtdbbbhjajkobaabGins
import Derived.Test.YtdbbbhjajkobaabGwref
import Derived.Test.YtdbbbhjajkobaabH3
set_option linter.unusedVariables false
set_option linter.unusedSimpArgs false
set_option maxRecDepth 100000
set_option maxHeartbeats 2000000
namespace Go.HL
open Go.RowKit Go.Proofs

inductive Tree where
  | mk (tag text key : ByteArray) (attrs : List Attr) (kids : List Tree)
def Tree.tag : Tree → ByteArray | .mk t _ _ _ _ => t
def Tree.text : Tree → ByteArray | .mk _ t _ _ _ => t
def Tree.key : Tree → ByteArray | .mk _ _ k _ _ => k
def Tree.attrs : Tree → List Attr | .mk _ _ _ a _ => a
def Tree.kids : Tree → List Tree | .mk _ _ _ _ k => k
mutual
def treeD : Tree → List D
  | .mk t x k a ks => [.str t, .str x, .str k, .list (a.map attrD) .ro, .list (treesD ks) .ro]
def treesD : List Tree → List (List D)
  | [] => []
  | t :: r => treeD t :: treesD r
end
theorem treesD_eq (l : List Tree) : treesD l = l.map treeD := by
  induction l with
  | nil => rfl
  | cons t l ih => simp only [treesD, List.map_cons, ih]
theorem treeD_eq (t : Tree) : treeD t = [.str t.tag, .str t.text, .str t.key, .list (t.attrs.map attrD) .ro, .list (t.kids.map treeD) .ro] := by
  cases t; simp only [treeD, treesD_eq]; rfl
theorem treeD_length (t : Tree) : (treeD t).length = 5 := by rw [treeD_eq]; rfl
@[simp] theorem treeD_take (t : Tree) : List.take 5 (treeD t) = treeD t := List.take_of_length_le (by rw [treeD_length]; omega)
mutual
def cntT : Tree → Nat
  | .mk _ _ _ _ ks => 1 + cntTs ks
def cntTs : List Tree → Nat
  | [] => 0
  | t :: r => cntT t + cntTs r
end
theorem cntT_eq (t : Tree) : cntT t = 1 + cntTs t.kids := by cases t; rfl
theorem cntTs_append (a b : List Tree) : cntTs (a ++ b) = cntTs a + cntTs b := by
  induction a with
  | nil => simp [cntTs]
  | cons w a ih => simp only [List.cons_append, cntTs, ih]; omega
theorem cntT_mem {t : Tree} {l : List Tree} (h : t ∈ l) : cntT t ≤ cntTs l := by
  induction l with
  | nil => simp at h
  | cons w l ih =>
    simp only [cntTs]
    rcases List.mem_cons.1 h with rfl | h
    · omega
    · have := ih h; omega
theorem cntTs_len (l : List Tree) : l.length ≤ cntTs l := by
  induction l with
  | nil => simp
  | cons t l ih => have := cntT_eq t; simp only [cntTs, List.length_cons]; omega
inductive FitT : Tree → Prop
  | mk (t : Tree) (h1 : t.tag.size ≤ 1048576 ∧ t.text.size ≤ 1048576 ∧ t.key.size ≤ 1048576) (h2 : FitsA t.attrs) (h3 : t.kids.length ≤ 1048576) (h4 : ∀ k ∈ t.kids, FitT k) : FitT t
theorem FitT.inv {t : Tree} (h : FitT t) : (t.tag.size ≤ 1048576 ∧ t.text.size ≤ 1048576 ∧ t.key.size ≤ 1048576) ∧ FitsA t.attrs ∧ t.kids.length ≤ 1048576 ∧ ∀ k ∈ t.kids, FitT k := by
  cases h with
  | mk _ h1 h2 h3 h4 => exact ⟨h1, h2, h3, h4⟩
mutual
def mayT : Tree → Bool
  | .mk t x k a ks => if t = ⟨#[]⟩ then ((decide (k = ⟨#[]⟩) && decide (a.length = 0)) && decide (ks.length = 0)) && mayText x else ((((mayName t && mayText k) && decide (x = ⟨#[]⟩)) && mayAttrs a) && !(voidN t && decide (0 < ks.length))) && mayTs ks
def mayTs : List Tree → Bool
  | [] => true
  | t :: r => mayT t && mayTs r
end
theorem mayT_eq (t : Tree) : mayT t = if t.tag = ⟨#[]⟩ then ((decide (t.key = ⟨#[]⟩) && decide (t.attrs.length = 0)) && decide (t.kids.length = 0)) && mayText t.text else ((((mayName t.tag && mayText t.key) && decide (t.text = ⟨#[]⟩)) && mayAttrs t.attrs) && !(voidN t.tag && decide (0 < t.kids.length))) && mayTs t.kids := by
  cases t; rfl
theorem mayTs_all (l : List Tree) : mayTs l = l.all mayT := by
  induction l with
  | nil => rfl
  | cons t l ih => simp only [mayTs, ih, List.all_cons]
mutual
def eqT : Tree → Tree → Bool
  | .mk t x k a ks, .mk t' x' k' a' ks' => ((((decide (t = t') && decide (x = x')) && decide (k = k')) && decide (a = a'))) && eqTs ks ks'
def eqTs : List Tree → List Tree → Bool
  | [], [] => true
  | w :: r, w' :: r' => eqT w w' && eqTs r r'
  | _, _ => false
end
theorem eqT_eq (a b : Tree) : eqT a b = ((((decide (a.tag = b.tag) && decide (a.text = b.text)) && decide (a.key = b.key)) && decide (a.attrs = b.attrs)) && eqTs a.kids b.kids) := by
  cases a; cases b; rfl
theorem eqTs_len : ∀ {a b : List Tree}, eqTs a b = true → a.length = b.length := by
  intro a
  induction a with
  | nil => intro b h; cases b; rfl; simp [eqTs] at h
  | cons w a ih => intro b h; cases b with
    | nil => simp [eqTs] at h
    | cons w' b => simp only [eqTs, Bool.and_eq_true] at h; simp [ih h.2]
theorem eqTs_iff : ∀ (m : Nat) (a b : List Tree), cntTs a < m → (eqTs a b = true ↔ a = b) := by
  intro m
  induction m with
  | zero => intro a b h; omega
  | succ m ih =>
    intro a
    induction a with
    | nil => intro b _; cases b <;> simp [eqTs]
    | cons w r ih2 =>
      intro b h
      cases b with
      | nil => simp [eqTs]
      | cons v s =>
        simp only [cntTs] at h
        have := cntT_eq w
        simp only [eqTs, eqT_eq, Bool.and_eq_true, decide_eq_true_eq, ih2 s (by omega), ih w.kids v.kids (by omega), List.cons.injEq]
        constructor
        · rintro ⟨⟨⟨⟨⟨h1, h2⟩, h3⟩, h4⟩, h5⟩, h6⟩
          refine ⟨?_, h6⟩
          cases w; cases v
          simp only [Tree.tag, Tree.text, Tree.key, Tree.attrs, Tree.kids] at h1 h2 h3 h4 h5
          subst h1 h2 h3 h4 h5; rfl
        · rintro ⟨rfl, h6⟩
          exact ⟨⟨⟨⟨⟨rfl, rfl⟩, rfl⟩, rfl⟩, rfl⟩, h6⟩
theorem eqT_refl (t : Tree) : eqT t t = true := by
  have := (eqTs_iff _ t.kids t.kids (Nat.lt_succ_self _)).2 rfl
  rw [eqT_eq, this]; simp
theorem c_tmay1_of (t : Tree) (h : Ret Try.prog 58 [.agg (treeD t)] (.bool (mayT t))) : Ret Try.prog 109 [.agg (treeD t)] (.bool (!mayT t)) := by
  refine Ret.of fun σ => ?_
  refine HCalls.start mixed false _ _ (fn := Try.f109) (by kernel_rfl) rfl (by kernel_rfl) rfl (by kernel_rfl) (by kernel_rfl) ?_
  rw [treeD_eq]
  simp (maxSteps := 2000000) +contextual [-decide_eq_true_eq, -decide_eq_false_iff_not]
  intro b hb
  rw [← treeD_eq]
  refine h _ _ ?_
  simp (maxSteps := 2000000) +contextual [-decide_eq_true_eq, -decide_eq_false_iff_not]
  exact (SLe.refl σ).set hb _
theorem c_tidx (l : List Tree) (tok : Tok) (g : FuncId) (p : Tree → Bool) (hl : l.length ≤ 1048576) (ent : entersB Try.prog g = true) (hf : ∀ t ∈ l, Ret Try.prog g [.agg (treeD t)] (.bool (p t))) :
    Ret Try.prog 137 [.list (l.map treeD) tok, .lit (.func (.func g) #[] #[])] (.int .i64 (idx p l)) := by
  refine Ret.of fun σ => ?_
  refine HCalls.start mixed false _ _ (fn := Try.f137) (by kernel_rfl) rfl (by kernel_rfl) rfl (by kernel_rfl) (by kernel_rfl) ?_
  have fin : ∀ (n i : Nat) (x : Tree), i + n = l.length → (∀ j, j < i → ∀ x, l[j]? = some x → p x = false) → l[i]? = some x →
      (p x = false → ∃ m, m < n ∧ ∃ i', i' + m = l.length ∧ IntKind.i64.wrap (↑i + 1) = ↑i' ∧ ∀ j, j < i' → ∀ x, l[j]? = some x → p x = false) ∧ (p x = true → (i : Int) = idx p l) := by
    intro n i x hi hno hx
    have hlt := (List.getElem?_eq_some_iff.1 hx).1
    refine ⟨fun hp => ⟨n - 1, by omega, i + 1, by omega, by rw [wrap_i64] <;> omega, fun j hj y hy => ?_⟩, fun hp => (idx_at hx hp hno).symm⟩
    by_cases hji : j = i
    · subst hji; rw [hx] at hy; injection hy with hy; subst hy; exact hp
    · exact hno j (by omega) y hy
  simp (maxSteps := 2000000) +contextual [-decide_eq_true_eq, -decide_eq_false_iff_not]
  refine hloop_fix (fun n e => ∃ i : Nat, i + n = l.length ∧ e 0 = .list (l.map treeD) tok ∧ e 1 = .lit (.func (.func g) #[] #[]) ∧ e 7 = .int .i64 l.length ∧ e 8 = .int .i64 i ∧ ∀ j, j < i → ∀ x, l[j]? = some x → p x = false) l.length ?_ ?_
  · exact ⟨0, by simp⟩
  · rintro n e ⟨i, hi, e0, e1, e7, e8, hno⟩
    by_cases h4 : i < l.length
    · obtain ⟨x, hx, hx2⟩ : ∃ x, l[i]? = some x ∧ l[i] = x := ⟨_, List.getElem?_eq_getElem h4, rfl⟩
      simp (maxSteps := 2000000) +contextual [e0, e1, e7, e8, ent, treeD_length, h4, hx, hx2, -decide_eq_true_eq, -decide_eq_false_iff_not]
      refine hf x (List.mem_of_getElem? hx) _ _ ?_
      simp (maxSteps := 2000000) +contextual [e0, e1, e7, e8, -decide_eq_true_eq, -decide_eq_false_iff_not]
      exact ⟨(fin n i x hi hno hx).2, (fin n i x hi hno hx).1⟩
    · simp (maxSteps := 2000000) +contextual [e0, e1, e7, e8, h4, -decide_eq_true_eq, -decide_eq_false_iff_not]
      rw [idx_none fun j hj x hx => hno j (by omega) x hx]
theorem c_tcontains (l : List Tree) (tok : Tok) (g : FuncId) (p : Tree → Bool) (hl : l.length ≤ 1048576) (ent : entersB Try.prog g = true) (hf : ∀ t ∈ l, Ret Try.prog g [.agg (treeD t)] (.bool (p t))) :
    Ret Try.prog 108 [.list (l.map treeD) tok, .lit (.func (.func g) #[] #[])] (.bool (l.any p)) := by
  refine Ret.of fun σ => ?_
  refine HCalls.start mixed false _ _ (fn := Try.f108) (by kernel_rfl) rfl (by kernel_rfl) rfl (by kernel_rfl) (by kernel_rfl) ?_
  simp (maxSteps := 2000000) +contextual [-decide_eq_true_eq, -decide_eq_false_iff_not]
  refine c_tidx l tok g p hl ent hf _ _ ?_
  simp (maxSteps := 2000000) +contextual [-decide_eq_true_eq, -decide_eq_false_iff_not]
  rcases idx_range p l with h | h
  · rw [h.1, h.2]; rfl
  · rw [h.2.2, decide_eq_true h.1]
theorem not_any {α : Type} (l : List α) (p : α → Bool) : (!l.any fun a => !p a) = l.all p := by
  induction l with
  | nil => rfl
  | cons a l ih => simp only [List.any_cons, List.all_cons, Bool.not_or, Bool.not_not, ih]
theorem c_mayR (l : List Attr) (tok : Tok) (hl : FitsA l) : Ret Try.prog 86 [.list (l.map attrD) tok] (.bool (mayAttrs l)) := Ret.of fun σ => c_mayA l tok σ hl
theorem c_tmay_of (t : Tree) (h : FitT t) (sub : ∀ k ∈ t.kids, Ret Try.prog 58 [.agg (treeD k)] (.bool (mayT k))) : Ret Try.prog 58 [.agg (treeD t)] (.bool (mayT t)) := by
  refine Ret.of fun σ => ?_
  obtain ⟨⟨f1, f2, f3⟩, f4, f5, f6⟩ := h.inv
  have hcon := c_tcontains t.kids .ro 109 (fun k => !mayT k) f5 (by simp) fun k hk => c_tmay1_of k (sub k hk)
  have k2 : t.text.size ≤ 9223372036854775807 := by omega
  have k3 : t.key.size ≤ 9223372036854775807 := by omega
  refine HCalls.start mixed false _ _ (fn := Try.f58) (by kernel_rfl) rfl (by kernel_rfl) rfl (by kernel_rfl) (by kernel_rfl) ?_
  rw [mayT_eq, mayTs_all, ← not_any, treeD_eq]
  simp (maxSteps := 2000000) +contextual [-decide_eq_true_eq, -decide_eq_false_iff_not]
  intro b hb
  have hS := fun X => (SLe.refl σ).set hb X
  generalize hany : (t.kids.any fun k => !mayT k) = q at *
  by_cases h1 : t.tag = ⟨#[]⟩
  · repeat' (first | (simp (maxSteps := 2000000) +contextual [*, decide_eq_true h1, h1, -decide_eq_true_eq, -decide_eq_false_iff_not]) | (refine c_text _ k2 _ _ ?_) | (intro _) | (refine And.intro ?_ ?_))
  · repeat' (first | (simp (maxSteps := 2000000) +contextual [*, decide_eq_false h1, h1, -decide_eq_true_eq, -decide_eq_false_iff_not]) | (refine c_may _ _ _ ?_) | (refine c_text _ k3 _ _ ?_) | (refine c_mayR _ _ f4 _ _ ?_) | (refine c_void _ _ _ ?_) | (refine hcon _ _ ?_) | (intro _) | (refine And.intro ?_ ?_))
theorem c_tmay : ∀ (n : Nat) (t : Tree), cntT t < n → FitT t → Ret Try.prog 58 [.agg (treeD t)] (.bool (mayT t)) := by
  intro n
  induction n with
  | zero => intro t h; omega
  | succ n ih =>
    intro t hn h
    refine c_tmay_of t h fun k hk => ih k ?_ (h.inv.2.2.2 k hk)
    have := cntT_eq t; have := cntT_mem hk; omega
/-! The document's answer. -/
theorem c_rmayA (l : List Attr) (tok : Tok) (hl : FitsA l) : Ret Try.prog 75 [.list (l.map attrD) tok] (.bool (mayAttrs l)) := by
  refine Ret.of fun σ => ?_
  have hl1 := hl.1
  refine HCalls.start mixed false _ _ (fn := Try.f75) (by kernel_rfl) rfl (by kernel_rfl) rfl (by kernel_rfl) (by kernel_rfl) ?_
  simp (maxSteps := 2000000) +contextual [-decide_eq_true_eq, -decide_eq_false_iff_not]
  let ok : Nat → Attr → Bool := fun i a => mayName a.name && mayText a.value && !decide (atA l a.name < i)
  have no : ∀ i x, l[i]? = some x → ok i x = false → mayAttrs l = false := fun i x hx h => by
    simp only [mayAttrs, Bool.and_eq_false_iff]
    right
    rw [List.all_eq_false]
    exact ⟨i, by have := (List.getElem?_eq_some_iff.1 hx).1; simpa using this, by rw [hx]; simpa [ok] using h⟩
  refine hloop_fix (fun n e => ∃ i : Nat, i + n = l.length ∧ e 0 = .list (l.map attrD) tok ∧ e 3 = .int .i64 i ∧ ∀ j, j < i → ∀ x, l[j]? = some x → ok j x = true) l.length ?_ ?_
  · exact ⟨0, by simp⟩
  · rintro n e ⟨i, hi, e0, e3, hok⟩
    by_cases h4 : i < l.length
    · obtain ⟨x, hx, hx2⟩ : ∃ x, l[i]? = some x ∧ l[i] = x := ⟨_, List.getElem?_eq_getElem h4, rfl⟩
      have hf := hl.2 x (List.mem_of_getElem? hx)
      simp (maxSteps := 2000000) +contextual [e0, e3, h4, hx, hx2, attrD_length, attrD_def, -decide_eq_true_eq, -decide_eq_false_iff_not]
      refine c_rname _ _ _ ?_
      simp (maxSteps := 2000000) +contextual [e0, e3, h4, hx, hx2, attrD_length, attrD_def, -decide_eq_true_eq, -decide_eq_false_iff_not]
      refine c_rtext _ (by omega) _ _ ?_
      cases hm : mayName x.name with
      | false =>
        simp (maxSteps := 2000000) +contextual [e0, e3, -decide_eq_true_eq, -decide_eq_false_iff_not]
        rw [no i x hx (by simp [ok, hm])]
      | true =>
        cases ht : mayText x.value with
        | false =>
          simp (maxSteps := 2000000) +contextual [e0, e3, -decide_eq_true_eq, -decide_eq_false_iff_not]
          rw [no i x hx (by simp [ok, ht])]
        | true =>
          simp (maxSteps := 2000000) +contextual [e0, e3, -decide_eq_true_eq, -decide_eq_false_iff_not]
          have hxi : l[i].name = x.name := by rw [hx2]
          refine hloop_fix (fun n e => ∃ k : Nat, k + n = i ∧ e 0 = .list (l.map attrD) tok ∧ e 3 = .int .i64 i ∧ e 6 = .int .i64 k ∧ ∀ j, j < k → ∀ y, l[j]? = some y → decide (y.name = x.name) = false) i ?_ ?_
          · refine ⟨0, by simp, ?_⟩
            simp (maxSteps := 2000000) +contextual [e0, e3, -decide_eq_true_eq, -decide_eq_false_iff_not]
          · rintro n1 e ⟨k, hk, e0, e3, e6, hne⟩
            by_cases hk4 : k < i
            · have hkl : k < l.length := by omega
              obtain ⟨y, hy, hy2⟩ : ∃ y, l[k]? = some y ∧ l[k] = y := ⟨_, List.getElem?_eq_getElem hkl, rfl⟩
              simp (maxSteps := 2000000) +contextual [e0, e3, e6, hk4, -decide_eq_true_eq, -decide_eq_false_iff_not]
              refine hdraw_intro (by kernel_rfl) ?_
              by_cases hyx : y.name = x.name
              · simp (maxSteps := 2000000) +contextual [e0, e3, e6, hk4, hkl, h4, hx, hx2, hy, hy2, attrD_length, attrD_def, hyx, -decide_eq_true_eq, -decide_eq_false_iff_not]
                have : atA l x.name = k := idx_at hy (by simpa using hyx) hne
                have := no i x hx (by simp [ok, this]; omega)
                rw [this]
              · simp (maxSteps := 2000000) +contextual [e0, e3, e6, hk4, hkl, h4, hx, hx2, hy, hy2, attrD_length, attrD_def, decide_eq_false hyx, -decide_eq_true_eq, -decide_eq_false_iff_not]
                refine ⟨n1 - 1, by omega, k + 1, by omega, by rw [wrap_i64] <;> omega, fun j hj z hz => ?_⟩
                by_cases hjk : j = k
                · subst hjk; rw [hy] at hz; injection hz with hz; subst hz; simpa using hyx
                · simpa using hne j (by omega) z hz
            · have hki : k = i := by omega
              subst hki
              simp (maxSteps := 2000000) +contextual [e0, e3, e6, hk4, -decide_eq_true_eq, -decide_eq_false_iff_not]
              refine ⟨n - 1, by omega, k + 1, by omega, by rw [wrap_i64] <;> omega, fun j hj z hz => ?_⟩
              by_cases hjk : j = k
              · subst hjk
                rw [hx] at hz; injection hz with hz; subst hz
                have hge : ¬ atA l x.name < j := by
                  rcases idx_range (fun a : Attr => decide (a.name = x.name)) l with h | h
                  · rw [List.any_eq_false] at h
                    exact absurd (by simp) (h.2 x (List.mem_of_getElem? hx))
                  · intro hlt
                    have h1 : atA l x.name = ((l.findIdx fun a => decide (a.name = x.name) : Nat) : Int) := by
                      unfold atA idx; rw [h.2.2]; rfl
                    have hfl : (l.findIdx fun a => decide (a.name = x.name)) < l.length := List.findIdx_lt_length_of_exists (by simpa using h.2.2)
                    have h2 := hne _ (by rw [h1] at hlt; omega) _ (List.getElem?_eq_getElem hfl)
                    have h3 : decide (l[l.findIdx fun a => decide (a.name = x.name)].name = x.name) = true := List.findIdx_getElem (p := fun a : Attr => decide (a.name = x.name)) (w := hfl)
                    rw [h2] at h3; cases h3
                simp [ok, hm, ht, hge]
              · exact hok j (by omega) z hz
    · have key : ∀ b : Bool, b = true → (decide (l.length ≤ 8) && b) = decide (l.length ≤ 8) := by intro b h; subst h; simp
      have hm : mayAttrs l = decide (l.length ≤ 8) := key _ (List.all_eq_true.2 fun j hj => by
        have hj : j < l.length := by simpa using hj
        have := hok j (by omega) _ (List.getElem?_eq_getElem hj)
        simpa [List.getElem?_eq_getElem hj, ok] using this)
      have hd : decide ((l.length : Int) ≤ 8) = mayAttrs l := by
        rw [hm]
        have : ((l.length : Int) ≤ 8) ↔ l.length ≤ 8 := by omega
        simp only [this]
      simp (maxSteps := 2000000) +contextual [e0, e3, h4, -decide_eq_true_eq, -decide_eq_false_iff_not]
      exact hd
theorem mayTs_drop (l : List Tree) {i : Nat} (h : i < l.length) : mayTs (l.drop i) = (mayT l[i] && mayTs (l.drop (i + 1))) := by
  rw [List.drop_eq_getElem_cons h]; rfl
theorem c_rtmay_of (t : Tree) (h : FitT t) (sub : ∀ k ∈ t.kids, Ret Try.prog 17 [.agg (treeD k)] (.bool (mayT k))) : Ret Try.prog 17 [.agg (treeD t)] (.bool (mayT t)) := by
  refine Ret.of fun σ => ?_
  obtain ⟨⟨f1, f2, f3⟩, f4, f5, f6⟩ := h.inv
  have k2 : t.text.size ≤ 9223372036854775807 := by omega
  have k3 : t.key.size ≤ 9223372036854775807 := by omega
  have hS := fun (b : Nat) (hb : σ b = none) X => (SLe.refl σ).set hb X
  by_cases h1 : t.tag = ⟨#[]⟩
  · refine HCalls.start mixed false _ _ (fn := Try.f17) (by kernel_rfl) rfl (by kernel_rfl) rfl (by kernel_rfl) (by kernel_rfl) ?_
    rw [mayT_eq, if_pos h1, treeD_eq]
    simp (maxSteps := 2000000) +contextual [-decide_eq_true_eq, -decide_eq_false_iff_not]
    intro b hb
    have hS := hS b hb
    repeat' (first | (simp (maxSteps := 2000000) +contextual [*, decide_eq_true h1, h1, -decide_eq_true_eq, -decide_eq_false_iff_not]) | (refine c_rtext _ k2 _ _ ?_) | (intro _) | (refine And.intro ?_ ?_))
  · refine HCalls.start mixed false _ _ (fn := Try.f17) (by kernel_rfl) rfl (by kernel_rfl) rfl (by kernel_rfl) (by kernel_rfl) ?_
    rw [mayT_eq, if_neg h1, treeD_eq]
    simp (maxSteps := 2000000) +contextual [-decide_eq_true_eq, -decide_eq_false_iff_not]
    intro b hb
    have hS := hS b hb
    simp (maxSteps := 2000000) +contextual [decide_eq_false h1, h1, -decide_eq_true_eq, -decide_eq_false_iff_not]
    refine c_rname _ _ _ ?_
    simp (maxSteps := 2000000) +contextual [-decide_eq_true_eq, -decide_eq_false_iff_not]
    refine c_rtext _ k3 _ _ ?_
    simp (maxSteps := 2000000) +contextual [-decide_eq_true_eq, -decide_eq_false_iff_not]
    refine c_rmayA _ _ f4 _ _ ?_
    simp (maxSteps := 2000000) +contextual [-decide_eq_true_eq, -decide_eq_false_iff_not]
    refine c_rvoid _ _ _ ?_
    generalize mayName t.tag = q1
    generalize mayText t.key = q2
    generalize mayAttrs t.attrs = q3
    generalize voidN t.tag = q4
    cases q1 with
    | false => simp (maxSteps := 2000000) +contextual [hS, -decide_eq_true_eq, -decide_eq_false_iff_not]
    | true =>
      cases q2 with
      | false => simp (maxSteps := 2000000) +contextual [hS, -decide_eq_true_eq, -decide_eq_false_iff_not]
      | true =>
        by_cases h2 : t.text = ⟨#[]⟩
        · cases q3 with
          | false => simp (maxSteps := 2000000) +contextual [decide_eq_true h2, h2, hS, -decide_eq_true_eq, -decide_eq_false_iff_not]
          | true =>
            cases q4 with
            | false =>
              simp (maxSteps := 2000000) +contextual [decide_eq_true h2, h2, -decide_eq_true_eq, -decide_eq_false_iff_not]
              obtain ⟨S, hSS⟩ : ∃ S, S = σ.set b (.cells (treeD t)) := ⟨_, rfl⟩
              have hSb : S b = some (.cells [.str t.tag, .str t.text, .str t.key, .list (t.attrs.map attrD) .ro, .list (t.kids.map treeD) .ro]) := by rw [hSS, Store.set_same, treeD_eq]
              have hSl : SLe σ S := by rw [hSS]; exact (SLe.refl σ).set hb _
              rw [treeD_eq, h2] at hSS
              rw [← hSS]
              refine hloop_fix (fun n e => ∃ i : Nat, i + n = t.kids.length ∧ e 1 = .ptr b 0 ∧ e 8 = .int .i64 i ∧ mayTs t.kids = mayTs (t.kids.drop i)) t.kids.length ?_ ?_
              · refine ⟨0, by simp, ?_⟩
                simp (maxSteps := 2000000) +contextual [-decide_eq_true_eq, -decide_eq_false_iff_not]
              · rintro n e ⟨i, hi, e1, e8, hq⟩
                by_cases h4 : i < t.kids.length
                · obtain ⟨x, hx, hx2⟩ : ∃ x, t.kids[i]? = some x ∧ t.kids[i] = x := ⟨_, List.getElem?_eq_getElem h4, rfl⟩
                  rw [mayTs_drop _ h4, hx2] at hq
                  simp (maxSteps := 2000000) +contextual [e1, e8, hSb, h4, hx, hx2, treeD_length, -decide_eq_true_eq, -decide_eq_false_iff_not]
                  refine sub x (List.mem_of_getElem? hx) _ _ ?_
                  cases hm : mayT x with
                  | false =>
                    rw [hm, Bool.false_and] at hq
                    simp (maxSteps := 2000000) +contextual [e1, e8, hSl, hq, -decide_eq_true_eq, -decide_eq_false_iff_not]
                  | true =>
                    rw [hm, Bool.true_and] at hq
                    simp (maxSteps := 2000000) +contextual [e1, e8, -decide_eq_true_eq, -decide_eq_false_iff_not]
                    exact ⟨n - 1, by omega, i + 1, by omega, by rw [wrap_i64] <;> omega, hq⟩
                · rw [List.drop_eq_nil_of_le (by omega)] at hq
                  simp (maxSteps := 2000000) +contextual [e1, e8, hSb, h4, hSl, -decide_eq_true_eq, -decide_eq_false_iff_not]
                  first | exact ⟨decide_eq_true h2, hq⟩ | exact ⟨⟨decide_eq_true h2, decide_eq_false h0⟩, hq⟩
            | true =>
              by_cases h0 : 0 < t.kids.length
              · simp (maxSteps := 2000000) +contextual [decide_eq_true h2, h2, h0, hS, -decide_eq_true_eq, -decide_eq_false_iff_not]
              · simp (maxSteps := 2000000) +contextual [decide_eq_true h2, h2, h0, -decide_eq_true_eq, -decide_eq_false_iff_not]
                obtain ⟨S, hSS⟩ : ∃ S, S = σ.set b (.cells (treeD t)) := ⟨_, rfl⟩
                have hSb : S b = some (.cells [.str t.tag, .str t.text, .str t.key, .list (t.attrs.map attrD) .ro, .list (t.kids.map treeD) .ro]) := by rw [hSS, Store.set_same, treeD_eq]
                have hSl : SLe σ S := by rw [hSS]; exact (SLe.refl σ).set hb _
                rw [treeD_eq, h2] at hSS
                rw [← hSS]
                refine hloop_fix (fun n e => ∃ i : Nat, i + n = t.kids.length ∧ e 1 = .ptr b 0 ∧ e 8 = .int .i64 i ∧ mayTs t.kids = mayTs (t.kids.drop i)) t.kids.length ?_ ?_
                · refine ⟨0, by simp, ?_⟩
                  simp (maxSteps := 2000000) +contextual [-decide_eq_true_eq, -decide_eq_false_iff_not]
                · rintro n e ⟨i, hi, e1, e8, hq⟩
                  by_cases h4 : i < t.kids.length
                  · obtain ⟨x, hx, hx2⟩ : ∃ x, t.kids[i]? = some x ∧ t.kids[i] = x := ⟨_, List.getElem?_eq_getElem h4, rfl⟩
                    rw [mayTs_drop _ h4, hx2] at hq
                    simp (maxSteps := 2000000) +contextual [e1, e8, hSb, h4, hx, hx2, treeD_length, -decide_eq_true_eq, -decide_eq_false_iff_not]
                    refine sub x (List.mem_of_getElem? hx) _ _ ?_
                    cases hm : mayT x with
                    | false =>
                      rw [hm, Bool.false_and] at hq
                      simp (maxSteps := 2000000) +contextual [e1, e8, hSl, hq, -decide_eq_true_eq, -decide_eq_false_iff_not]
                    | true =>
                      rw [hm, Bool.true_and] at hq
                      simp (maxSteps := 2000000) +contextual [e1, e8, -decide_eq_true_eq, -decide_eq_false_iff_not]
                      exact ⟨n - 1, by omega, i + 1, by omega, by rw [wrap_i64] <;> omega, hq⟩
                  · rw [List.drop_eq_nil_of_le (by omega)] at hq
                    simp (maxSteps := 2000000) +contextual [e1, e8, hSb, h4, hSl, -decide_eq_true_eq, -decide_eq_false_iff_not]
                    first | exact ⟨decide_eq_true h2, hq⟩ | exact ⟨⟨decide_eq_true h2, decide_eq_false h0⟩, hq⟩
        · cases q3 with
          | false => simp (maxSteps := 2000000) +contextual [decide_eq_false h2, h2, hS, -decide_eq_true_eq, -decide_eq_false_iff_not]
          | true => simp (maxSteps := 2000000) +contextual [decide_eq_false h2, h2, hS, -decide_eq_true_eq, -decide_eq_false_iff_not]
theorem c_rtmay : ∀ (n : Nat) (t : Tree), cntT t < n → FitT t → Ret Try.prog 17 [.agg (treeD t)] (.bool (mayT t)) := by
  intro n
  induction n with
  | zero => intro t h; omega
  | succ n ih =>
    intro t hn h
    refine c_rtmay_of t h fun k hk => ih k ?_ (h.inv.2.2.2 k hk)
    have := cntT_eq t; have := cntT_mem hk; omega
/-! Are two the same? -/
theorem c_tsame_of (a b : Tree) (h : a.attrs.length ≤ 1048576) (sub : Ret Try.prog 112 [.list (a.kids.map treeD) .ro, .list (b.kids.map treeD) .ro, .lit (.func (.func 61) #[] #[])] (.bool (eqTs a.kids b.kids))) :
    Ret Try.prog 61 [.agg (treeD a), .agg (treeD b)] (.bool (eqT a b)) := by
  refine Ret.of fun σ => ?_
  rw [treeD_eq a, treeD_eq b, eqT_eq]
  refine HCalls.start mixed false _ _ (fn := Try.f61) (by kernel_rfl) rfl (by kernel_rfl) rfl (by kernel_rfl) (by kernel_rfl) ?_
  simp (maxSteps := 2000000) +contextual [-decide_eq_true_eq, -decide_eq_false_iff_not]
  intro b1 hb1 b2 n2 hb2
  have hS : ∀ X Y, SLe σ ((σ.set b1 X).set b2 Y) := fun X Y => ((SLe.refl σ).set hb1 _).set (by simp [n2, hb2]) _
  have n2' : ¬ b1 = b2 := fun e => n2 e.symm
  repeat' (first | (simp (maxSteps := 2000000) +contextual [*, -decide_eq_true_eq, -decide_eq_false_iff_not]) | (refine c_same _ _ _ _ h _ _ ?_) | (refine sub _ _ ?_) | (intro _) | (refine And.intro ?_ ?_))
theorem c_teqf (A B : List Tree) (t1 t2 : Tok) (hl : A.length ≤ 1048576) (one : ∀ a ∈ A, ∀ b, Ret Try.prog 61 [.agg (treeD a), .agg (treeD b)] (.bool (eqT a b))) :
    Ret Try.prog 112 [.list (A.map treeD) t1, .list (B.map treeD) t2, .lit (.func (.func 61) #[] #[])] (.bool (eqTs A B)) := by
  refine Ret.of fun σ => ?_
  refine HCalls.start mixed false _ _ (fn := Try.f112) (by kernel_rfl) rfl (by kernel_rfl) rfl (by kernel_rfl) (by kernel_rfl) ?_
  by_cases hlen : A.length = B.length
  · have hlen' : (A.length : Int) = B.length := by omega
    simp (maxSteps := 2000000) +contextual [hlen', -decide_eq_true_eq, -decide_eq_false_iff_not]
    refine hloop_intro (fun n e s => ∃ i : Nat, i + n = A.length ∧ e 1 = .list (B.map treeD) t2 ∧ e 2 = .lit (.func (.func 61) #[] #[]) ∧ e 15 = .list (A.map treeD) t1 ∧ e 16 = .int .i64 B.length ∧ e 17 = .int .i64 i ∧ SLe σ s ∧ eqTs A B = eqTs (A.drop i) (B.drop i)) A.length ?_ ?_
    · exact ⟨0, by simp⟩
    · rintro n e s ⟨i, hi, e1, e2, e15, e16, e17, hs, heq⟩
      by_cases h4 : i < A.length
      · have h4b : i < B.length := by omega
        obtain ⟨a, ha, ha2⟩ : ∃ a, A[i]? = some a ∧ A[i] = a := ⟨_, List.getElem?_eq_getElem h4, rfl⟩
        obtain ⟨b, hb, hb2⟩ : ∃ b, B[i]? = some b ∧ B[i] = b := ⟨_, List.getElem?_eq_getElem h4b, rfl⟩
        rw [List.drop_eq_getElem_cons h4, List.drop_eq_getElem_cons h4b, ha2, hb2] at heq
        simp only [eqTs] at heq
        simp (maxSteps := 2000000) +contextual [e1, e2, e15, e16, e17, h4, h4b, ha, ha2, hb, hb2, treeD_length, -decide_eq_true_eq, -decide_eq_false_iff_not]
        intro b1 hb1 b2 n2 hb2'
        have hS : SLe s ((s.set b1 (.cells (treeD a))).set b2 (.cells (treeD b))) := by (intro xx oo hh; simp only [Store.set] at hh ⊢; grind)
        have n2' : ¬ b1 = b2 := fun e => n2 e.symm
        refine one a (List.mem_of_getElem? ha) b _ _ ?_
        cases hv : eqT a b with
        | true =>
          rw [hv, Bool.true_and] at heq
          simp (maxSteps := 2000000) +contextual [e1, e2, e15, e16, e17, -decide_eq_true_eq, -decide_eq_false_iff_not]
          exact ⟨n - 1, by omega, s, hS, i + 1, by omega, by rw [wrap_i64] <;> omega, hs, heq⟩
        | false =>
          rw [hv, Bool.false_and] at heq
          simp (maxSteps := 2000000) +contextual [e1, e2, e15, e16, e17, heq, -decide_eq_true_eq, -decide_eq_false_iff_not]
          exact hs.trans hS
      · rw [List.drop_eq_nil_of_le (by omega), List.drop_eq_nil_of_le (by omega)] at heq
        have heq : eqTs A B = true := heq
        have h4' : ¬ i < B.length := by omega
        simp (maxSteps := 2000000) +contextual [e1, e2, e15, e16, e17, h4, h4', heq, -decide_eq_true_eq, -decide_eq_false_iff_not]
        exact hs
  · have hlen' : ¬ (A.length : Int) = B.length := by omega
    have : eqTs A B = false := by
      cases h : eqTs A B with
      | false => rfl
      | true => exact absurd (eqTs_len h) hlen
    simp (maxSteps := 2000000) +contextual [hlen', this, -decide_eq_true_eq, -decide_eq_false_iff_not]
theorem c_tsame : ∀ (n : Nat) (a b : Tree), cntT a < n → FitT a → Ret Try.prog 61 [.agg (treeD a), .agg (treeD b)] (.bool (eqT a b)) := by
  intro n
  induction n with
  | zero => intro a b h; omega
  | succ n ih =>
    intro a b hn h
    refine c_tsame_of a b h.inv.2.1.1 (c_teqf _ _ _ _ h.inv.2.2.1 fun k hk b => ih k b ?_ (h.inv.2.2.2 k hk))
    have := cntT_eq a; have := cntT_mem hk; omega
end Go.HL
