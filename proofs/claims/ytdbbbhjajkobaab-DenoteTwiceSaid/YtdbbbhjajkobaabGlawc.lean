/- The law AttrJoins. -/
import Derived.Test.YtdbbbhjajkobaabGattr
set_option linter.unusedVariables false
set_option linter.unusedSimpArgs false
set_option maxRecDepth 100000
set_option maxHeartbeats 1000000
namespace Go.HL
open Go.RowKit Go.Proofs

def upa : Attr := ⟨⟨#[97]⟩, ⟨#[49]⟩, true⟩
def upb : Attr := ⟨⟨#[98]⟩, ⟨#[50]⟩, false⟩
def upc : Attr := ⟨⟨#[99]⟩, ⟨#[51]⟩, false⟩
theorem up_join : joinA [upa, upb] [upc] = [upa, upc] := by decide +kernel
theorem up_find : findA [upa, upc] ⟨#[99]⟩ = some upc := by decide +kernel
theorem up_may : mayAttrs [upa, upc] = true := by decide +kernel
theorem up_may2 : mayAttrs [⟨⟨#[]⟩, ⟨#[]⟩, false⟩] = false := by decide +kernel
theorem foldA_mem (w : List Attr) (s : List Attr) (a : Attr) (h : a ∈ w.foldl addA s) : a ∈ s ∨ a ∈ w := by
  induction w generalizing s with
  | nil => exact .inl h
  | cons x w ih =>
    rcases ih (addA s x) h with h | h
    · unfold addA at h
      split at h
      · rcases List.mem_append.1 h with h | h
        · exact .inl h
        · exact .inr (by simp at h; simp [h])
      · exact .inl h
    · exact .inr (by simp [h])
theorem join_fits {l m : List Attr} (hl : FitsA l) (hm : FitsA m) : FitsA (joinA l m) := by
  refine ⟨by rw [joinA, List.length_take]; omega, fun a ha => ?_⟩
  rcases foldA_mem _ _ a (List.mem_of_mem_take ha) with h | h
  · exact hl.2 a (List.mem_filter.1 h).1
  · exact hm.2 a (List.mem_filter.1 h).1
theorem new_fits {m : List Attr} (hm : FitsA m) (h : m.length ≤ 500000) : FitsA (newA m) := by
  have h1 := someA_le m true
  have h2 := someA_le m false
  refine ⟨by rw [newA, List.length_append]; omega, fun a ha => ?_⟩
  rcases List.mem_append.1 ha with h | h
  · exact hm.2 a (List.mem_filter.1 h).1
  · exact hm.2 a (List.mem_filter.1 h).1
theorem nodup_of_at {l : List Attr} (h : ∀ (i : Nat) (a : Attr), l[i]? = some a → ¬ atA l a.name < (i : Int)) : (l.map (·.name)).Nodup := by
  rw [List.nodup_iff_pairwise_ne, List.pairwise_iff_getElem]
  intro i j hi hj hij e
  simp only [List.length_map] at hi hj
  simp only [List.getElem_map] at e
  refine h j l[j] (List.getElem?_eq_getElem hj) ?_
  have h1 : l.any (fun a => decide (a.name = l[j].name)) = true := List.any_eq_true.2 ⟨l[i], List.getElem_mem hi, by simpa using e⟩
  have h2 : l.findIdx (fun a => decide (a.name = l[j].name)) ≤ i := by
    refine Nat.le_of_not_lt fun hlt => ?_
    have := List.not_of_lt_findIdx hlt
    simp [e] at this
  simp only [atA, idx, h1, if_true]
  omega
theorem at_of_nodup {l : List Attr} (h : (l.map (·.name)).Nodup) (i : Nat) (a : Attr) (hi : l[i]? = some a) : ¬ atA l a.name < (i : Int) := by
  obtain ⟨hlt, rfl⟩ := List.getElem?_eq_some_iff.1 hi
  have : atA l l[i].name = i := by
    refine idx_at hi (by simp) fun j hj x hx => ?_
    obtain ⟨hjl, rfl⟩ := List.getElem?_eq_some_iff.1 hx
    rw [List.nodup_iff_pairwise_ne, List.pairwise_iff_getElem] at h
    have := h j i (by simpa using hjl) (by simpa using hlt) hj
    simpa using this
  omega
theorem mayA_iff (l : List Attr) : mayAttrs l = true ↔ l.length ≤ 8 ∧ (∀ a ∈ l, mayName a.name = true ∧ mayText a.value = true) ∧ (l.map (·.name)).Nodup := by
  unfold mayAttrs
  rw [Bool.and_eq_true, decide_eq_true_eq, List.all_eq_true]
  constructor
  · rintro ⟨h1, h2⟩
    have h3 : ∀ (i : Nat) (a : Attr), l[i]? = some a → mayName a.name = true ∧ mayText a.value = true ∧ ¬ atA l a.name < (i : Int) := by
      intro i a hi
      have := h2 i (by simpa using (List.getElem?_eq_some_iff.1 hi).1)
      rw [hi] at this
      simpa [and_assoc] using this
    refine ⟨h1, fun a ha => ?_, nodup_of_at fun i a hi => (h3 i a hi).2.2⟩
    obtain ⟨i, hi⟩ := List.getElem?_of_mem ha
    exact ⟨(h3 i a hi).1, (h3 i a hi).2.1⟩
  · rintro ⟨h1, h2, h3⟩
    refine ⟨h1, fun i hi => ?_⟩
    have hi : i < l.length := by simpa using hi
    rw [List.getElem?_eq_getElem hi]
    have h4 := h2 _ (List.getElem_mem hi)
    have h5 := at_of_nodup h3 i _ (List.getElem?_eq_getElem hi)
    simp [h4, h5]
theorem atA_neg (l : List Attr) (nm : ByteArray) : atA l nm < 0 ↔ nm ∉ l.map (·.name) := by
  rcases idx_range (fun a : Attr => decide (a.name = nm)) l with ⟨h1, h2⟩ | ⟨h1, h2, h3⟩
  · have : atA l nm = -1 := h1
    rw [this]
    simp only [List.any_eq_false, decide_eq_true_eq] at h2
    simp only [List.mem_map, not_exists, not_and]
    exact ⟨fun _ a ha => h2 a ha, fun _ => by omega⟩
  · have h1 : 0 ≤ atA l nm := h1
    simp only [List.any_eq_true, decide_eq_true_eq] at h3
    obtain ⟨a, ha, e⟩ := h3
    constructor
    · intro h; omega
    · intro h; exact absurd (List.mem_map.2 ⟨a, ha, e⟩) h
theorem fold_filter (w s : List Attr) (hw : (w.map (·.name)).Nodup) : w.foldl addA s = s ++ w.filter fun a => decide (atA s a.name < 0) := by
  induction w generalizing s with
  | nil => simp
  | cons a w ih =>
    simp only [List.map_cons, List.nodup_cons] at hw
    rw [List.foldl_cons]
    by_cases h : a.name ∈ s.map (·.name)
    · have e : addA s a = s := by rw [addA, if_neg (by rw [atA_neg]; simpa using h)]
      rw [e, ih s hw.2, List.filter_cons_of_neg (by rw [decide_eq_true_eq, atA_neg]; simpa using h)]
    · have e : addA s a = s ++ [a] := by rw [addA, if_pos (by rw [atA_neg]; exact h)]
      rw [e, ih _ hw.2, List.filter_cons_of_pos (by rw [decide_eq_true_eq, atA_neg]; exact h)]
      rw [List.append_assoc, List.singleton_append]
      congr 2
      apply List.filter_congr
      intro b hb
      have : b.name ≠ a.name := fun h' => hw.1 (List.mem_map.2 ⟨b, hb, h'⟩)
      rw [decide_eq_decide, atA_neg, atA_neg, List.map_append, List.mem_append]
      simp [this]
theorem some_nodup {l : List Attr} (h : (l.map (·.name)).Nodup) (st : Bool) : ((someA l st).map (·.name)).Nodup := h.sublist ((List.filter_sublist).map _)
theorem some_static (l : List Attr) (st : Bool) : ∀ a ∈ someA l st, a.static = st := fun a ha => by simpa using (List.mem_filter.1 ha).2
theorem some_self {l : List Attr} {st : Bool} (h : ∀ a ∈ l, a.static = st) : someA l st = l := List.filter_eq_self.2 fun a ha => by simp [h a ha]
theorem some_other {l : List Attr} {st : Bool} (h : ∀ a ∈ l, a.static = !st) : someA l st = [] := List.filter_eq_nil_iff.2 fun a ha => by simp [h a ha]
theorem hok (l m : List Attr) (hl : mayAttrs l = true) (hm : mayAttrs m = true) :
    mayAttrs (joinA l m) = true ∧ mayAttrs (newA m) = true ∧ joinA (joinA l m) m = joinA l m ∧ joinA (newA m) m = newA m ∧ (newA m).length = m.length := by
  obtain ⟨l1, l2, l3⟩ := (mayA_iff l).1 hl
  obtain ⟨m1, m2, m3⟩ := (mayA_iff m).1 hm
  let S := someA l true
  let W := someA m false
  let X := W.filter fun a => decide (atA S a.name < 0)
  have hW : (W.map (·.name)).Nodup := some_nodup m3 false
  have hj : joinA l m = (S ++ X).take 8 := by rw [joinA, fold_filter _ _ hW]
  have hS8 : S.length ≤ 8 := Nat.le_trans (someA_le l true) l1
  have hj2 : joinA l m = S ++ X.take (8 - S.length) := by rw [hj, List.take_append, List.take_of_length_le hS8]
  have hSX : ((S ++ X).map (·.name)).Nodup := by
    rw [List.map_append, List.nodup_append]
    refine ⟨some_nodup l3 true, hW.sublist ((List.filter_sublist).map _), ?_⟩
    intro a ha b hb e
    subst e
    obtain ⟨x, hx, e⟩ := List.mem_map.1 hb
    have := (List.mem_filter.1 hx).2
    rw [decide_eq_true_eq, atA_neg, e] at this
    exact this ha
  have perm : (newA m).Perm m := by
    have : someA m false = m.filter fun a => !decide (a.static = true) := List.filter_congr fun a _ => by cases a.static <;> rfl
    rw [newA, this, someA]
    exact List.filter_append_perm _ _
  have hnewS : someA (newA m) true = someA m true := by
    rw [newA, someA, List.filter_append]
    have e1 : (someA m true).filter (fun a => decide (a.static = true)) = someA m true := some_self (some_static m true)
    have e2 : (someA m false).filter (fun a => decide (a.static = true)) = [] := some_other (st := true) fun a ha => by simpa using some_static m false a ha
    rw [e1, e2, List.append_nil]
  refine ⟨?_, ?_, ?_, ?_, perm.length_eq⟩
  · rw [mayA_iff, hj]
    refine ⟨by rw [List.length_take]; omega, fun a ha => ?_, hSX.sublist ((List.take_sublist _ _).map _)⟩
    rcases List.mem_append.1 (List.mem_of_mem_take ha) with h | h
    · exact l2 a (List.mem_filter.1 h).1
    · exact m2 a (List.mem_filter.1 (List.mem_filter.1 h).1).1
  · rw [mayA_iff]
    exact ⟨by rw [perm.length_eq]; exact m1, fun a ha => m2 a (perm.mem_iff.1 ha), (perm.map _).nodup_iff.2 m3⟩
  · have e : someA (joinA l m) true = S := by
      rw [hj2, someA, List.filter_append]
      have e1 : S.filter (fun a => decide (a.static = true)) = S := some_self (some_static l true)
      have e2 : (X.take (8 - S.length)).filter (fun a => decide (a.static = true)) = [] := some_other (st := true) fun a ha => by
        simpa using some_static m false a (List.mem_filter.1 (List.mem_of_mem_take ha)).1
      rw [e1, e2, List.append_nil]
    rw [joinA, e, fold_filter _ _ hW]
    exact hj.symm
  · rw [joinA, hnewS, fold_filter _ _ hW]
    have : (someA m false).filter (fun a => decide (atA (someA m true) a.name < 0)) = someA m false := by
      rw [List.filter_eq_self]
      intro a ha
      have hnd : ((newA m).map (·.name)).Nodup := (perm.map _).nodup_iff.2 m3
      rw [newA, List.map_append, List.nodup_append] at hnd
      rw [decide_eq_true_eq, atA_neg]
      intro h
      exact hnd.2.2 _ h _ (List.mem_map.2 ⟨a, ha, rfl⟩) rfl
    show ((someA m true) ++ (someA m false).filter _).take 8 = _
    rw [this]
    exact List.take_of_length_le (by rw [show someA m true ++ someA m false = newA m from rfl, perm.length_eq]; exact m1)
end Go.HL
