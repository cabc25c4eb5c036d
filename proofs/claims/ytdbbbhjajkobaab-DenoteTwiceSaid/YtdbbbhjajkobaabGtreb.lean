/- Trees: sameness and counting, and the law TreeTells. -/
import Derived.Test.YtdbbbhjajkobaabGtree
set_option linter.unusedVariables false
set_option linter.unusedSimpArgs false
set_option maxRecDepth 100000
set_option maxHeartbeats 4000000
namespace Go.HL
open Go.RowKit Go.Proofs

theorem eqTs_drop (a b : List Tree) {i : Nat} (h : i < a.length) (h' : i < b.length) : eqTs (a.drop i) (b.drop i) = (eqT a[i] b[i] && eqTs (a.drop (i + 1)) (b.drop (i + 1))) := by
  rw [List.drop_eq_getElem_cons h, List.drop_eq_getElem_cons h']; rfl
theorem c_rtsame_of (a b : Tree) (h : FitT a) (sub : ∀ k ∈ a.kids, ∀ y, Ret Try.prog 66 [.agg (treeD k), .agg (treeD y)] (.bool (eqT k y))) :
    Ret Try.prog 66 [.agg (treeD a), .agg (treeD b)] (.bool (eqT a b)) := by
  refine Ret.of fun σ => ?_
  obtain ⟨-, f4, f5, -⟩ := h.inv
  rw [treeD_eq a, treeD_eq b, eqT_eq]
  refine HCalls.start mixed false _ _ (fn := Try.f66) (by kernel_rfl) rfl (by kernel_rfl) rfl (by kernel_rfl) (by kernel_rfl) ?_
  simp (maxSteps := 2000000) +contextual [-decide_eq_true_eq, -decide_eq_false_iff_not]
  intro b1 hb1 b2 n2 hb2
  have n2' : ¬ b1 = b2 := fun e => n2 e.symm
  refine c_rsameA _ _ _ _ f4.1 _ _ ?_
  obtain ⟨S, hS⟩ : ∃ S, S = (σ.set b1 (.cells (treeD a))).set b2 (.cells (treeD b)) := ⟨_, rfl⟩
  have hSl : SLe σ S := by rw [hS]; exact ((SLe.refl σ).set hb1 _).set (by simp [n2, hb2]) _
  have s1 : S b1 = some (.cells [.str a.tag, .str a.text, .str a.key, .list (a.attrs.map attrD) .ro, .list (a.kids.map treeD) .ro]) := by rw [hS, Store.set_ne _ _ _ _ n2', Store.set_same, treeD_eq]
  have s2 : S b2 = some (.cells [.str b.tag, .str b.text, .str b.key, .list (b.attrs.map attrD) .ro, .list (b.kids.map treeD) .ro]) := by rw [hS, Store.set_same, treeD_eq]
  rw [treeD_eq, treeD_eq] at hS
  rw [← hS]
  clear hS
  by_cases q1 : a.attrs = b.attrs
  · by_cases q2 : a.tag = b.tag
    · by_cases q3 : a.text = b.text
      · by_cases q4 : a.key = b.key
        · by_cases q5 : a.kids.length = b.kids.length
          · have q5' : (a.kids.length : Int) = b.kids.length := by omega
            simp (maxSteps := 2000000) +contextual [s1, s2, decide_eq_true q1, decide_eq_true q2, decide_eq_true q3, decide_eq_true q4, decide_eq_true q5', q5', q2, q3, q4, -decide_eq_true_eq, -decide_eq_false_iff_not]
            refine hloop_fix (fun n e => ∃ i : Nat, i + n = a.kids.length ∧ e 2 = .ptr b1 0 ∧ e 3 = .ptr b2 0 ∧ e 6 = .int .i64 i ∧ eqTs a.kids b.kids = eqTs (a.kids.drop i) (b.kids.drop i)) a.kids.length ?_ ?_
            · refine ⟨0, by simp, ?_⟩
              simp (maxSteps := 2000000) +contextual [-decide_eq_true_eq, -decide_eq_false_iff_not]
            · rintro n e ⟨i, hi, e2, e3, e6, hq⟩
              by_cases h4 : i < a.kids.length
              · have h4b : i < b.kids.length := by omega
                obtain ⟨x, hx, hx2⟩ : ∃ x, a.kids[i]? = some x ∧ a.kids[i] = x := ⟨_, List.getElem?_eq_getElem h4, rfl⟩
                obtain ⟨y, hy, hy2⟩ : ∃ y, b.kids[i]? = some y ∧ b.kids[i] = y := ⟨_, List.getElem?_eq_getElem h4b, rfl⟩
                rw [eqTs_drop _ _ h4 h4b, hx2, hy2] at hq
                simp (maxSteps := 2000000) +contextual [e2, e3, e6, s1, h4, -decide_eq_true_eq, -decide_eq_false_iff_not]
                refine hdraw_intro (by kernel_rfl) ?_
                simp (maxSteps := 2000000) +contextual [e2, e3, e6, s1, s2, h4, h4b, hx, hx2, hy, hy2, treeD_length, -decide_eq_true_eq, -decide_eq_false_iff_not]
                refine sub x (List.mem_of_getElem? hx) y _ _ ?_
                cases hm : eqT x y with
                | false =>
                  rw [hm, Bool.false_and] at hq
                  simp (maxSteps := 2000000) +contextual [e2, e3, e6, hSl, hq, -decide_eq_true_eq, -decide_eq_false_iff_not]
                | true =>
                  rw [hm, Bool.true_and] at hq
                  simp (maxSteps := 2000000) +contextual [e2, e3, e6, -decide_eq_true_eq, -decide_eq_false_iff_not]
                  exact ⟨n - 1, by omega, i + 1, by omega, by rw [wrap_i64] <;> omega, hq⟩
              · rw [List.drop_eq_nil_of_le (by omega), List.drop_eq_nil_of_le (by omega)] at hq
                simp (maxSteps := 2000000) +contextual [e2, e3, e6, s1, h4, hSl, -decide_eq_true_eq, -decide_eq_false_iff_not]
                exact ⟨⟨⟨⟨decide_eq_true q2, decide_eq_true q3⟩, decide_eq_true q4⟩, decide_eq_true q1⟩, hq⟩
          · have q5' : ¬ (a.kids.length : Int) = b.kids.length := by omega
            have : eqTs a.kids b.kids = false := by
              cases h : eqTs a.kids b.kids with
              | false => rfl
              | true => exact absurd (eqTs_len h) q5
            simp (maxSteps := 2000000) +contextual [s1, s2, decide_eq_true q1, decide_eq_true q2, decide_eq_true q3, decide_eq_true q4, decide_eq_false q5', this, hSl, -decide_eq_true_eq, -decide_eq_false_iff_not]
        · simp (maxSteps := 2000000) +contextual [s1, s2, decide_eq_true q1, decide_eq_true q2, decide_eq_true q3, decide_eq_false q4, hSl, -decide_eq_true_eq, -decide_eq_false_iff_not]
      · simp (maxSteps := 2000000) +contextual [s1, s2, decide_eq_true q1, decide_eq_true q2, decide_eq_false q3, hSl, -decide_eq_true_eq, -decide_eq_false_iff_not]
    · simp (maxSteps := 2000000) +contextual [s1, s2, decide_eq_true q1, decide_eq_false q2, hSl, -decide_eq_true_eq, -decide_eq_false_iff_not]
  · simp (maxSteps := 2000000) +contextual [s1, s2, decide_eq_false q1, hSl, -decide_eq_true_eq, -decide_eq_false_iff_not]
theorem c_rtsame : ∀ (n : Nat) (a b : Tree), cntT a < n → FitT a → Ret Try.prog 66 [.agg (treeD a), .agg (treeD b)] (.bool (eqT a b)) := by
  intro n
  induction n with
  | zero => intro a b h; omega
  | succ n ih =>
    intro a b hn h
    refine c_rtsame_of a b h fun k hk b => ih k b ?_ (h.inv.2.2.2 k hk)
    have := cntT_eq a; have := cntT_mem hk; omega
theorem cntTs_next {l : List Tree} {i : Nat} {x : Tree} (h : l[i]? = some x) : cntTs (l.take (i + 1)) = cntTs (l.take i) + cntT x := by
  rw [take_next h, cntTs_append]; simp [cntTs]
theorem cntTs_le (l : List Tree) (i : Nat) : cntTs (l.take i) ≤ cntTs l := by
  have := cntTs_append (l.take i) (l.drop i)
  rw [List.take_append_drop] at this; omega
theorem c_tcount : ∀ (n : Nat) (t : Tree), cntT t < n → cntT t ≤ 1048576 → Ret Try.prog 62 [.agg (treeD t)] (.int .i64 (cntT t)) := by
  intro n
  induction n with
  | zero => intro t h; omega
  | succ n ih =>
    intro t hn hb
    refine Ret.of fun σ => ?_
    have hc := cntT_eq t
    have hlen := cntTs_len t.kids
    rw [treeD_eq]
    refine HCalls.start mixed false _ _ (fn := Try.f62) (by kernel_rfl) rfl (by kernel_rfl) rfl (by kernel_rfl) (by kernel_rfl) ?_
    simp (maxSteps := 2000000) +contextual [-decide_eq_true_eq, -decide_eq_false_iff_not]
    intro b hb
    refine hloop_intro (fun n e s => ∃ i : Nat, i + n = t.kids.length ∧ e 7 = .list (t.kids.map treeD) .ro ∧ e 8 = .int .i64 t.kids.length ∧ e 9 = .int .i64 i ∧ e 3 = .int .i64 (1 + cntTs (t.kids.take i) : Nat) ∧ SLe σ s) t.kids.length ?_ ?_
    · refine ⟨0, by simp, ?_⟩
      simp (maxSteps := 2000000) +contextual [cntTs, -decide_eq_true_eq, -decide_eq_false_iff_not]
      exact (SLe.refl σ).set hb _
    · rintro m e s ⟨i, hi, e7, e8, e9, e3, hs⟩
      by_cases h4 : i < t.kids.length
      · obtain ⟨x, hx, hx2⟩ : ∃ x, t.kids[i]? = some x ∧ t.kids[i] = x := ⟨_, List.getElem?_eq_getElem h4, rfl⟩
        have hnx := cntTs_next hx
        have hle := cntTs_le t.kids (i + 1)
        have hxl := cntT_mem (List.mem_of_getElem? hx)
        simp (maxSteps := 2000000) +contextual [e7, e8, e9, e3, h4, hx, hx2, treeD_length, -decide_eq_true_eq, -decide_eq_false_iff_not]
        intro b2 hb2
        refine ih x (by omega) (by omega) _ _ ?_
        simp (maxSteps := 2000000) +contextual [e7, e8, e9, e3, -decide_eq_true_eq, -decide_eq_false_iff_not]
        exact ⟨m - 1, by omega, _, SLe.refl _, i + 1, by omega, by rw [wrap_i64] <;> omega, by rw [wrap_i64] <;> omega, hs.set hb2 _⟩
      · rw [List.take_of_length_le (by omega)] at e3
        simp (maxSteps := 2000000) +contextual [e7, e8, e9, e3, h4, hs, -decide_eq_true_eq, -decide_eq_false_iff_not]
        omega
/-! How many, up to some. -/
def bigT (t : Tree) : Bool := ((decide (100 < t.tag.size) || decide (100 < t.text.size)) || decide (100 < t.key.size)) || !fewA t.attrs
mutual
def manyT : Tree → Int → Int
  | .mk t x k a ks, most => if bigT (.mk t x k a []) then most + 1 else manyTs ks 1 most
def manyTs : List Tree → Int → Int → Int
  | [], n, _ => n
  | t :: r, n, most => if n ≤ most then manyTs r (n + manyT t (most - n)) most else n
end
theorem manyT_eq (t : Tree) (most : Int) : manyT t most = if bigT t then most + 1 else manyTs t.kids 1 most := by
  cases t; rfl
theorem many_rng : ∀ (m : Nat), (∀ t : Tree, cntT t < m → ∀ most, 0 ≤ most → 1 ≤ manyT t most ∧ manyT t most ≤ most + 1) ∧ ∀ l : List Tree, cntTs l < m → ∀ n most, n ≤ most + 1 → n ≤ manyTs l n most ∧ manyTs l n most ≤ most + 1 := by
  intro m
  induction m with
  | zero => exact ⟨fun t h => by omega, fun l h => by omega⟩
  | succ m ih =>
    have hT : ∀ t : Tree, cntT t < m + 1 → ∀ most, 0 ≤ most → 1 ≤ manyT t most ∧ manyT t most ≤ most + 1 := by
      intro t h most h0
      rw [manyT_eq]
      have := cntT_eq t
      split
      · omega
      · exact ih.2 t.kids (by omega) 1 most (by omega)
    refine ⟨hT, fun l => ?_⟩
    induction l with
    | nil => intro _ n most h; simp only [manyTs]; omega
    | cons t r ih2 =>
      intro h n most hn
      simp only [cntTs] at h
      have := cntT_eq t
      simp only [manyTs]
      split
      · have h1 := hT t (by omega) (most - n) (by omega)
        have h2 := ih2 (by omega) (n + manyT t (most - n)) most (by omega)
        omega
      · omega
theorem manyT_rng (t : Tree) {most : Int} (h : 0 ≤ most) : 1 ≤ manyT t most ∧ manyT t most ≤ most + 1 := (many_rng (cntT t + 1)).1 t (by omega) most h
theorem manyTs_rng (l : List Tree) {n most : Int} (h : n ≤ most + 1) : n ≤ manyTs l n most ∧ manyTs l n most ≤ most + 1 := (many_rng (cntTs l + 1)).2 l (by omega) n most h
theorem many_small : ∀ (m : Nat), (∀ t : Tree, cntT t < m → ∀ most, 0 ≤ most → most ≤ 1048575 → manyT t most ≤ most → manyT t most = cntT t ∧ FitT t) ∧ ∀ l : List Tree, cntTs l < m → ∀ n most, 0 ≤ n → most ≤ 1048575 → manyTs l n most ≤ most → manyTs l n most = n + cntTs l ∧ ∀ t ∈ l, FitT t := by
  intro m
  induction m with
  | zero => exact ⟨fun t h => by omega, fun l h => by omega⟩
  | succ m ih =>
    have hT : ∀ t : Tree, cntT t < m + 1 → ∀ most, 0 ≤ most → most ≤ 1048575 → manyT t most ≤ most → manyT t most = cntT t ∧ FitT t := by
      intro t h most h0 hb hle
      rw [manyT_eq] at hle ⊢
      have hc := cntT_eq t
      split at hle
      · omega
      · rename_i hbig
        rw [if_neg hbig]
        obtain ⟨h1, h2⟩ := ih.2 t.kids (by omega) 1 most (by omega) hb hle
        have hl := cntTs_len t.kids
        simp only [bigT, Bool.or_eq_true, decide_eq_true_eq, Bool.not_eq_true', not_or] at hbig
        obtain ⟨⟨⟨b1, b2⟩, b3⟩, b4⟩ := hbig
        have b4 : fewA t.attrs = true := by simpa using b4
        obtain ⟨g1, g2⟩ := fewA_fits b4
        refine ⟨by omega, .mk t ⟨by omega, by omega, by omega⟩ ⟨by omega, fun a ha => by have := g2 a ha; omega⟩ (by omega) h2⟩
    refine ⟨hT, fun l => ?_⟩
    induction l with
    | nil => intro _ n most _ _ _; exact ⟨by simp [manyTs, cntTs], by simp⟩
    | cons t r ih2 =>
      intro h n most hn hb hle
      simp only [cntTs] at h ⊢
      have := cntT_eq t
      simp only [manyTs] at hle ⊢
      by_cases hnm : n ≤ most
      · rw [if_pos hnm] at hle ⊢
        have r1 := manyT_rng t (most := most - n) (by omega)
        have r2 := manyTs_rng r (n := n + manyT t (most - n)) (most := most) (by omega)
        obtain ⟨k1, k2⟩ := hT t (by omega) (most - n) (by omega) (by omega) (by omega)
        obtain ⟨k3, k4⟩ := ih2 (by omega) (n + manyT t (most - n)) most (by omega) hb hle
        refine ⟨by omega, fun x hx => ?_⟩
        rcases List.mem_cons.1 hx with rfl | hx
        · exact k2
        · exact k4 x hx
      · rw [if_neg hnm] at hle; omega
theorem manyT_small {t : Tree} {most : Int} (h0 : 0 ≤ most) (hb : most ≤ 1048575) (h : manyT t most ≤ most) : manyT t most = cntT t ∧ FitT t := (many_small (cntT t + 1)).1 t (by omega) most h0 hb h
theorem c_many : ∀ (n : Nat) (t : Tree) (most : Int), cntT t < n → 0 ≤ most → most ≤ 1048575 → Ret Try.prog 57 [.agg (treeD t), .int .i64 most] (.int .i64 (manyT t most)) := by
  intro n
  induction n with
  | zero => intro t most h; omega
  | succ n ih =>
    intro t most hn h0 hb
    refine Ret.of fun σ => ?_
    have hc := cntT_eq t
    have hlen := cntTs_len t.kids
    have hwm : IntKind.i64.wrap (most + 1) = most + 1 := by rw [wrap_i64] <;> omega
    rw [treeD_eq, manyT_eq]
    refine HCalls.start mixed false _ _ (fn := Try.f57) (by kernel_rfl) rfl (by kernel_rfl) rfl (by kernel_rfl) (by kernel_rfl) ?_
    simp (maxSteps := 2000000) +contextual [-decide_eq_true_eq, -decide_eq_false_iff_not]
    intro b hb
    obtain ⟨S, hS⟩ : ∃ S, S = σ.set b (.cells (treeD t)) := ⟨_, rfl⟩
    have hSl : SLe σ S := by rw [hS]; exact (SLe.refl σ).set hb _
    have s1 : S b = some (.cells [.str t.tag, .str t.text, .str t.key, .list (t.attrs.map attrD) .ro, .list (t.kids.map treeD) .ro]) := by rw [hS, Store.set_same, treeD_eq]
    rw [treeD_eq] at hS
    rw [← hS]
    clear hS
    by_cases q1 : 100 < (t.tag.size : Int)
    · have hb1 : bigT t = true := by have : 100 < t.tag.size := by omega
                                     simp [bigT, this]
      rw [if_pos hb1]
      simp (maxSteps := 2000000) +contextual [s1, decide_eq_true q1, hwm, hSl, -decide_eq_true_eq, -decide_eq_false_iff_not]
    · by_cases q2 : 100 < (t.text.size : Int)
      · have hb1 : bigT t = true := by have : 100 < t.text.size := by omega
                                       simp [bigT, this]
        rw [if_pos hb1]
        simp (maxSteps := 2000000) +contextual [s1, decide_eq_false q1, decide_eq_true q2, hwm, hSl, -decide_eq_true_eq, -decide_eq_false_iff_not]
      · by_cases q3 : 100 < (t.key.size : Int)
        · have hb1 : bigT t = true := by have : 100 < t.key.size := by omega
                                         simp [bigT, this]
          rw [if_pos hb1]
          simp (maxSteps := 2000000) +contextual [s1, decide_eq_false q1, decide_eq_false q2, decide_eq_true q3, hwm, hSl, -decide_eq_true_eq, -decide_eq_false_iff_not]
        · simp (maxSteps := 2000000) +contextual [s1, decide_eq_false q1, decide_eq_false q2, decide_eq_false q3, -decide_eq_true_eq, -decide_eq_false_iff_not]
          refine c_few3 _ _ _ _ ?_
          cases hfw : fewA t.attrs with
          | false =>
            have hb1 : bigT t = true := by simp [bigT, hfw]
            rw [if_pos hb1]
            simp (maxSteps := 2000000) +contextual [hwm, hSl, -decide_eq_true_eq, -decide_eq_false_iff_not]
          | true =>
            have hb1 : ¬ bigT t = true := by
              have h1 : ¬ 100 < t.tag.size := by omega
              have h2 : ¬ 100 < t.text.size := by omega
              have h3 : ¬ 100 < t.key.size := by omega
              simp [bigT, hfw, h1, h2, h3]
            rw [if_neg hb1]
            simp (maxSteps := 2000000) +contextual [-decide_eq_true_eq, -decide_eq_false_iff_not]
            refine hloop_fix (fun n e => ∃ (i : Nat) (k : Int), i + n = t.kids.length ∧ e 1 = .int .i64 most ∧ e 2 = .ptr b 0 ∧ e 5 = .int .i64 k ∧ e 6 = .int .i64 i ∧ 1 + (i : Int) ≤ k ∧ k ≤ most + 1 ∧ manyTs t.kids 1 most = manyTs (t.kids.drop i) k most) t.kids.length ?_ ?_
            · refine ⟨0, 1, by simp, ?_⟩
              simp (maxSteps := 2000000) +contextual [-decide_eq_true_eq, -decide_eq_false_iff_not]
              omega
            · rintro m e ⟨i, k, hi, e1, e2, e5, e6, hk1, hk2, hq⟩
              by_cases h4 : i < t.kids.length
              · obtain ⟨x, hx, hx2⟩ : ∃ x, t.kids[i]? = some x ∧ t.kids[i] = x := ⟨_, List.getElem?_eq_getElem h4, rfl⟩
                rw [List.drop_eq_getElem_cons h4, hx2] at hq
                simp only [manyTs] at hq
                by_cases hkm : k ≤ most
                · rw [if_pos hkm] at hq
                  have hxl := cntT_mem (List.mem_of_getElem? hx)
                  have r1 := manyT_rng x (most := most - k) (by omega)
                  have hw1 : IntKind.i64.wrap (most - k) = most - k := by rw [wrap_i64] <;> omega
                  have hw2 : IntKind.i64.wrap (k + manyT x (most - k)) = k + manyT x (most - k) := by rw [wrap_i64] <;> omega
                  simp (maxSteps := 2000000) +contextual [e1, e2, e5, e6, s1, h4, decide_eq_true hkm, hx, hx2, treeD_length, hw1, -decide_eq_true_eq, -decide_eq_false_iff_not]
                  refine ih x (most - k) (by omega) (by omega) (by omega) _ _ ?_
                  simp (maxSteps := 2000000) +contextual [e1, e2, e5, e6, hw2, -decide_eq_true_eq, -decide_eq_false_iff_not]
                  exact ⟨m - 1, by omega, i + 1, by omega, by rw [wrap_i64] <;> omega, by omega, by omega, hq⟩
                · rw [if_neg hkm] at hq
                  simp (maxSteps := 2000000) +contextual [e1, e2, e5, e6, s1, h4, decide_eq_false hkm, hSl, -decide_eq_true_eq, -decide_eq_false_iff_not]
                  exact hq.symm
              · rw [List.drop_eq_nil_of_le (by omega)] at hq
                simp (maxSteps := 2000000) +contextual [e1, e2, e5, e6, s1, h4, hSl, -decide_eq_true_eq, -decide_eq_false_iff_not]
                exact hq.symm
/-! The example. -/
structure TreeT where
  t : Tree
  ta : Tok
  tk : Tok
def treeT (p : TreeT) : List D := [.str p.t.tag, .str p.t.text, .str p.t.key, .list (p.t.attrs.map attrD) p.ta, .list (p.t.kids.map treeD) p.tk]
theorem treeT_length (p : TreeT) : (treeT p).length = 5 := rfl
theorem treeT_wk (l : List TreeT) (tok : Tok) : Wk (.list (l.map treeT) tok) (.list ((l.map TreeT.t).map treeD) .ro) := by
  refine Wk.maps treeT treeD TreeT.t l tok (fun a => by rw [treeD_length]; rfl) ?_
  rintro ⟨w, t1, t2⟩ j d d' h1 h2
  rw [treeD_eq] at h2
  match j with
  | 0 => simp [treeT] at h1 h2; subst h1 h2; exact .refl _
  | 1 => simp [treeT] at h1 h2; subst h1 h2; exact .refl _
  | 2 => simp [treeT] at h1 h2; subst h1 h2; exact .refl _
  | 3 => simp [treeT] at h1 h2; subst h1 h2; exact .list _ _
  | 4 => simp [treeT] at h1 h2; subst h1 h2; exact .list _ _
  | n + 5 => simp [treeT] at h1
theorem Wk.tree {a b c : ByteArray} {da dk : D} {attrs : List Attr} {kids : List Tree} (h1 : Wk da (.list (attrs.map attrD) .ro)) (h2 : Wk dk (.list (kids.map treeD) .ro)) : Wk (.agg [.str a, .str b, .str c, da, dk]) (.agg (treeD (.mk a b c attrs kids))) := by
  rw [treeD_eq]
  refine .agg _ _ rfl fun i d d' hd hd' => ?_
  match i with
  | 0 => simp at hd hd'; subst hd hd'; exact .refl _
  | 1 => simp at hd hd'; subst hd hd'; exact .refl _
  | 2 => simp at hd hd'; subst hd hd'; exact .refl _
  | 3 => simp at hd hd'; subst hd hd'; exact h1
  | 4 => simp at hd hd'; subst hd hd'; exact h2
  | n + 5 => simp at hd
theorem c_tof_nil (id : Int) : Ret Try.prog 60 [.lit (.pointer none), .int .i64 id] (.tup [.agg [.str ⟨#[]⟩, .str ⟨#[]⟩, .str ⟨#[]⟩, .list [] .nil, .list [] .nil], .bool false]) := by
  refine Ret.of fun σ => ?_
  refine HCalls.start mixed false _ _ (fn := Try.f60) (by kernel_rfl) rfl (by kernel_rfl) rfl (by kernel_rfl) (by kernel_rfl) ?_
  simp (maxSteps := 2000000) +contextual [-decide_eq_true_eq, -decide_eq_false_iff_not]
def upA : Tree := .mk ⟨#[]⟩ ⟨#[97]⟩ ⟨#[]⟩ [] []
def upB : Tree := .mk ⟨#[]⟩ ⟨#[98]⟩ ⟨#[]⟩ [] []
def upT : Tree := .mk ⟨#[112]⟩ ⟨#[]⟩ ⟨#[]⟩ [] [upA, upB]
def upV : Tree := .mk ⟨#[98, 114]⟩ ⟨#[]⟩ ⟨#[]⟩ [] [upA, upB]
theorem fit_leaf (t : Tree) (h1 : t.tag.size ≤ 1048576 ∧ t.text.size ≤ 1048576 ∧ t.key.size ≤ 1048576) (h2 : t.attrs = []) (h3 : t.kids = []) : FitT t :=
  .mk t h1 (by rw [h2]; exact ⟨by simp, by simp⟩) (by rw [h3]; simp) (by rw [h3]; simp)
theorem fit_up (t : Tree) (h1 : t.tag.size ≤ 1048576 ∧ t.text.size ≤ 1048576 ∧ t.key.size ≤ 1048576) (h2 : t.attrs = []) (h3 : t.kids = [upA, upB]) : FitT t :=
  .mk t h1 (by rw [h2]; exact ⟨by simp, by simp⟩) (by rw [h3]; simp) (by
    rw [h3]
    intro k hk
    simp at hk
    rcases hk with rfl | rfl
    · exact fit_leaf _ (by decide) rfl rfl
    · exact fit_leaf _ (by decide) rfl rfl)
theorem upk_wk (tk : Tok) : Wk (.list ([⟨upA, .nil, .nil⟩, ⟨upB, .nil, .nil⟩].map treeT) tk) (.list ([upA, upB].map treeD) .ro) := treeT_wk [⟨upA, .nil, .nil⟩, ⟨upB, .nil, .nil⟩] tk
theorem c_up8 : Ret Try.prog 56 [] (.bool true) := by
  refine Ret.of fun σ => ?_
  refine HCalls.start mixed false _ _ (fn := Try.f56) (by kernel_rfl) rfl (by kernel_rfl) rfl (by kernel_rfl) (by kernel_rfl) ?_
  simp (maxSteps := 2000000) +contextual [-decide_eq_true_eq, -decide_eq_false_iff_not]
  intro b hb
  refine c_tof_nil _ _ _ ?_
  simp (maxSteps := 2000000) +contextual [-decide_eq_true_eq, -decide_eq_false_iff_not]
  intro b2 n2 hb2
  have n2' : ¬ b = b2 := fun e => n2 e.symm
  have w1 := Wk.tree (a := ⟨#[112]⟩) (b := ⟨#[]⟩) (c := ⟨#[]⟩) (attrs := []) (da := .list [] .nil) (.list _ _) (upk_wk .full)
  have w2 := Wk.tree (a := ⟨#[98, 114]⟩) (b := ⟨#[]⟩) (c := ⟨#[]⟩) (attrs := []) (da := .list [] .nil) (.list _ _) (upk_wk .full)
  have f1 : FitT upT := fit_up _ (by decide) rfl rfl
  have f2 : FitT upV := fit_up _ (by decide) rfl rfl
  have m1 : mayT upT = true := by decide +kernel
  have m2 : mayT upV = false := by decide +kernel
  refine HCalls.pre1 w1 (c_tcount _ upT (Nat.lt_succ_self _) (by decide) _ _ ?_)
  have cu : (cntT upT : Int) = 3 := by decide
  rw [cu]
  simp (maxSteps := 2000000) +contextual [n2', -decide_eq_true_eq, -decide_eq_false_iff_not]
  refine HCalls.pre1 w1 (c_tmay _ upT (Nat.lt_succ_self _) f1 _ _ ?_)
  rw [m1]
  simp (maxSteps := 2000000) +contextual [n2', -decide_eq_true_eq, -decide_eq_false_iff_not]
  refine HCalls.pre1 w2 (c_tmay _ upV (Nat.lt_succ_self _) f2 _ _ ?_)
  rw [m2]
  simp (maxSteps := 2000000) +contextual [n2', -decide_eq_true_eq, -decide_eq_false_iff_not]
  refine HCalls.pre2 w1 w1 (c_tsame _ upT upT (Nat.lt_succ_self _) f1 _ _ ?_)
  rw [eqT_refl]
  simp (maxSteps := 2000000) +contextual [n2', -decide_eq_true_eq, -decide_eq_false_iff_not]
  exact ((SLe.refl σ).set hb _).set (by simp [n2, hb2]) _
end Go.HL
