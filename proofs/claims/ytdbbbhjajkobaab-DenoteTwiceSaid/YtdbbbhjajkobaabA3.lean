/- Parts of the proofs, one behind the other: Glawk Glawc Gargs. -/
import Derived.Test.YtdbbbhjajkobaabA2
import Derived.Test.YtdbbbhjajkobaabA1
import Derived.Test.YtdbbbhjajkobaabH3
/- The laws CodePuts, CodeGets, CodeBack. -/
set_option linter.unusedVariables false
set_option linter.unusedSimpArgs false
set_option maxRecDepth 100000
set_option maxHeartbeats 1000000
namespace Go.HL
open Go.RowKit Go.Proofs

def fewI (l : List Ins) : Bool := decide (l.length ≤ 150) && l.all fun a => decide (a.a.size ≤ 300) && decide (a.b.size ≤ 300)
theorem fewI_fits {l : List Ins} (h : fewI l = true) : l.length ≤ 150 ∧ ∀ a ∈ l, a.a.size ≤ 300 ∧ a.b.size ≤ 300 := by
  simpa [fewI] using h
theorem fewI_fit {l : List Ins} (h : fewI l = true) : FitL l := by
  obtain ⟨h1, h2⟩ := fewI_fits h
  exact ⟨by omega, fun x hx => by have := h2 x hx; omega⟩
theorem c_few12 (l : List Ins) (tok : Tok) : Ret Try.prog 63 [.list (l.map insD) tok] (.int .i64 (if fewI l then 1 else 0)) := by
  refine Ret.of fun σ => ?_
  refine HCalls.start mixed false _ _ (fn := Try.f63) (by kernel_rfl) rfl (by kernel_rfl) rfl (by kernel_rfl) (by kernel_rfl) ?_
  simp (maxSteps := 2000000) +contextual [-decide_eq_true_eq, -decide_eq_false_iff_not]
  let ok : Ins → Bool := fun a => decide (a.a.size ≤ 300) && decide (a.b.size ≤ 300)
  refine hloop_fix (fun n e => ∃ i : Nat, i + n = l.length ∧ i ≤ 150 ∧ e 0 = .list (l.map insD) tok ∧ e 3 = .int .i64 i ∧ Front ok l i) l.length ?_ ?_
  · exact ⟨0, by simp [Front.zero]⟩
  · rintro n e ⟨i, hi, hi2, e0, e3, hok⟩
    have no : ∀ x, l[i]? = some x → ok x = false → fewI l = false := fun x hx h => by
      simp only [fewI, Bool.and_eq_false_iff]
      right
      exact all_no hx h
    have go : ∀ x, l[i]? = some x → i < 150 → ok x = true → ∃ m, m < n ∧ ∃ i', i' + m = l.length ∧ i' ≤ 150 ∧ IntKind.i64.wrap (↑i + 1) = ↑i' ∧ Front ok l i' := fun x hx h20 h => by
      have := (List.getElem?_eq_some_iff.1 hx).1
      exact ⟨n - 1, by omega, i + 1, by omega, by omega, by rw [wrap_i64] <;> omega, hok.succ hx h⟩
    have yes : ¬ i < l.length → l.length ≤ 150 → fewI l = true := fun h1 h2 => by
      have : l.all ok = true := hok.all (by omega)
      simp only [fewI, Bool.and_eq_true, decide_eq_true_eq]
      exact ⟨h2, this⟩
    have big : ¬ l.length ≤ 150 → fewI l = false := fun h => by simp [fewI, h]
    simp (maxSteps := 2000000) +contextual [e0, e3, insD_length, insD_def, -decide_eq_true_eq, -decide_eq_false_iff_not]
    grind
theorem up12_put : putErr [⟨4, ⟨#[104, 105]⟩, ⟨#[]⟩⟩] = 0 ∧ putOut [⟨4, ⟨#[104, 105]⟩, ⟨#[]⟩⟩] = [4, 2, 104, 105] := by decide +kernel
theorem up12_get : getP [9] = ([], 7) := by decide +kernel
/-! What was put is got, and the other way round. -/
theorem may_op {x : Ins} (h : mayIns x = true) : (1 ≤ x.op ∧ x.op ≤ 8) ∧ (texts x.op = 0 → x.a = ⟨#[]⟩ ∧ x.b = ⟨#[]⟩) ∧ (texts x.op = 1 → x.b = ⟨#[]⟩) := by
  unfold mayIns at h
  unfold texts
  split at h
  · rename_i e; rw [e]; refine ⟨by decide, ?_, ?_⟩ <;> simp
  · split at h
    · rename_i e; rw [e]; refine ⟨by decide, ?_, ?_⟩ <;> simp
    · split at h
      · rename_i e; rw [e]; simp only [Bool.and_eq_true, decide_eq_true_eq] at h; refine ⟨by decide, ?_, ?_⟩ <;> simp [h.2]
      · split at h
        · rename_i e; rcases e with e | e <;> rw [e] <;> (refine ⟨by decide, ?_, ?_⟩ <;> simp)
        · split at h
          · rename_i e
            simp only [Bool.and_eq_true, decide_eq_true_eq] at h
            refine ⟨by omega, fun _ => h, fun _ => h.2⟩
          · cases h
theorem txtP_txt (s : ByteArray) (h : s.size ≤ 255) (r : List UInt8) : txtP (txt s ++ r) = some (s, r) := by
  have e1 : (UInt8.ofNat s.size).toNat = s.size := by simp; omega
  have e2 : s.data.toList.length = s.size := by simp
  simp only [txt, List.cons_append, txtP, e1]
  rw [if_pos (by rw [List.length_append, e2]; omega)]
  congr 2
  · rw [← e2, List.take_left' rfl]
  · rw [← e2, List.drop_left' rfl]
theorem oneP_put (x : Ins) (h : mayIns x = true) (r : List UInt8) : oneP (putI x ++ r) = some (x, r) := by
  obtain ⟨⟨h1, h2⟩, h3, h4⟩ := may_op h
  obtain ⟨ha, hb⟩ := mayIns_le h
  have eo : ((UInt8.ofInt x.op).toNat : Int) = x.op := by simp [UInt8.ofInt]; omega
  have key : ∀ q, oneP (UInt8.ofInt x.op :: q) = if texts x.op = 0 then checkI ⟨x.op, ⟨#[]⟩, ⟨#[]⟩⟩ q else match txtP q with
    | none => none
    | some (a, r1) => if texts x.op = 1 then checkI ⟨x.op, a, ⟨#[]⟩⟩ r1 else match txtP r1 with
      | none => none
      | some (b, r2) => checkI ⟨x.op, a, b⟩ r2 := fun q => by simp only [oneP, eo]; rfl
  have h5 : texts x.op = 0 ∨ texts x.op = 1 ∨ texts x.op = 2 := by have := texts_le x.op; omega
  unfold putI
  rw [List.cons_append, key]
  obtain ⟨op, a, b⟩ := x
  simp only at *
  rcases h5 with h5 | h5 | h5
  · obtain ⟨rfl, rfl⟩ := h3 h5
    simp [h5, checkI, h]
  · obtain rfl := h4 h5
    simp [h5, txtP_txt a (by omega), checkI, h]
  · simp [h5, txtP_txt a (by omega), txtP_txt b (by omega), checkI, h, List.append_assoc]
theorem get_put (l : List Ins) : ∀ (n : Nat) (out : List Ins), l.all mayIns = true → (putL l).length ≤ n → out.length + l.length ≤ 120 → getF n (putL l) out = (out ++ l, 0) := by
  induction l with
  | nil => intro n out _ _ _; cases n <;> simp [getF, putL]
  | cons x l ih =>
    intro n out hm hn hl
    simp only [List.all_cons, Bool.and_eq_true] at hm
    have e : putL (x :: l) = putI x ++ putL l := by simp [putL]
    rw [e] at hn ⊢
    have hx : 0 < (putI x).length := by simp [putI]
    rw [List.length_append] at hn
    obtain ⟨m, rfl⟩ : ∃ m, n = m + 1 := ⟨n - 1, by omega⟩
    simp only [List.length_cons] at hl
    have hne : putI x ++ putL l ≠ [] := by intro h; have := congrArg List.length h; simp at this; simp [putI] at this
    have := ih m (out ++ [x]) hm.2 (by omega) (by simp; omega)
    simp only [getF, if_neg hne, oneP_put x hm.1, this, List.append_assoc, List.singleton_append]
    rw [if_neg (by omega)]
theorem txtP_inv {l r : List UInt8} {s : ByteArray} (h : txtP l = some (s, r)) : l = txt s ++ r := by
  cases l with
  | nil => simp [txtP] at h
  | cons c t =>
    simp only [txtP] at h
    split at h
    · rename_i hc
      injection h with h; injection h with h1 h2
      subst h1 h2
      have e1 : (⟨⟨t.take c.toNat⟩⟩ : ByteArray).size = c.toNat := by simp [ByteArray.size]; omega
      simp [txt, e1]
    · cases h
theorem oneP_inv {l r : List UInt8} {x : Ins} (h : oneP l = some (x, r)) : l = putI x ++ r ∧ mayIns x = true := by
  cases l with
  | nil => simp [oneP] at h
  | cons u t =>
    have eu : UInt8.ofInt (u.toNat : Int) = u := by
      have := u8_lt u
      unfold UInt8.ofInt
      rw [Int.emod_eq_of_lt (by omega) (by omega)]
      simp
    simp only [oneP, checkI] at h
    split at h
    · rename_i h0
      split at h
      · rename_i hm
        injection h with h; injection h with h1 h2; subst h1 h2
        exact ⟨by simp [putI, h0, eu], hm⟩
      · cases h
    · rename_i h0
      split at h
      · cases h
      · rename_i a r1 ht
        have e1 := txtP_inv ht
        split at h
        · rename_i h1'
          split at h
          · rename_i hm
            injection h with h; injection h with h1 h2; subst h1 h2
            exact ⟨by simp [putI, h1', eu, e1], hm⟩
          · cases h
        · rename_i h1'
          split at h
          · cases h
          · rename_i b r2 ht2
            have e2 := txtP_inv ht2
            split at h
            · rename_i hm
              injection h with h; injection h with h1 h2; subst h1 h2
              have h2' : texts u.toNat = 2 := by have := texts_le u.toNat; omega
              exact ⟨by simp [putI, h2', eu, e1, e2], hm⟩
            · cases h
theorem get_inv : ∀ (n : Nat) (l : List UInt8) (out p : List Ins), l.length ≤ n → out.length ≤ 120 → getF n l out = (p, 0) → ∃ q, p = out ++ q ∧ putL q = l ∧ q.all mayIns = true ∧ p.length ≤ 120 := by
  intro n
  induction n with
  | zero =>
    intro l out p hl ho h
    have : l = [] := List.eq_nil_of_length_eq_zero (by omega)
    subst this
    simp only [getF] at h
    injection h with h1 h2
    exact ⟨[], by simp [h1], rfl, rfl, by rw [← h1]; exact ho⟩
  | succ n ih =>
    intro l out p hl ho h
    simp only [getF] at h
    split at h
    · rename_i hnil
      injection h with h1 h2
      subst hnil
      exact ⟨[], by simp [h1], rfl, rfl, by rw [← h1]; exact ho⟩
    · split at h
      · injection h with h1 h2; cases h2
      · rename_i x r hx
        split at h
        · injection h with h1 h2; cases h2
        · obtain ⟨e, hm⟩ := oneP_inv hx
          have hlt := oneP_lt hx
          obtain ⟨q, q1, q2, q3, q4⟩ := ih r (out ++ [x]) p (by omega) (by simp; omega) h
          exact ⟨x :: q, by rw [q1]; simp, by rw [e, ← q2]; simp [putL], by simp [hm, q3], q4⟩
theorem getF_le : ∀ (n : Nat) (l : List UInt8) (out : List Ins), out.length ≤ 120 → (getF n l out).2 ≤ 13 ∧ (getF n l out).1.length ≤ 120 := by
  intro n
  induction n with
  | zero => intro l out ho; exact ⟨by simp [getF], ho⟩
  | succ n ih =>
    intro l out ho
    simp only [getF]
    split
    · exact ⟨Nat.zero_le _, ho⟩
    · split
      · simp
      · split
        · simp
        · exact ih _ _ (by simp; omega)
theorem get_many (k : Nat) : ∀ (n : Nat) (out : List Ins), k ≤ n → out.length ≤ 120 → 120 < out.length + k → (getF n (List.replicate k 7) out) = ([], 13) := by
  induction k with
  | zero => intro n out _ h1 h2; omega
  | succ k ih =>
    intro n out hn h1 h2
    obtain ⟨m, rfl⟩ : ∃ m, n = m + 1 := ⟨n - 1, by omega⟩
    have e : oneP (List.replicate (k + 1) 7) = some (⟨7, ⟨#[]⟩, ⟨#[]⟩⟩, List.replicate k 7) := by
      have : oneP (List.replicate (k + 1) 7) = checkI ⟨7, ⟨#[]⟩, ⟨#[]⟩⟩ (List.replicate k 7) := by rw [List.replicate_succ]; rfl
      rw [this]
      have : mayIns ⟨7, ⟨#[]⟩, ⟨#[]⟩⟩ = true := by decide
      simp [checkI, this]
    simp only [getF, e]
    rw [if_neg (by simp)]
    by_cases h3 : out.length = 120
    · rw [if_pos h3]
    · rw [if_neg h3]
      exact ih m _ (by omega) (by simp; omega) (by simp; omega)
theorem put_many (k : Nat) (h : 120 < k) : putErr (List.replicate k ⟨7, ⟨#[]⟩, ⟨#[]⟩⟩) = 13 := by
  have : (List.replicate k (⟨7, ⟨#[]⟩, ⟨#[]⟩⟩ : Ins)).all mayIns = true := by
    rw [List.all_eq_true]
    intro x hx
    rw [(List.mem_replicate.1 hx).2]
    decide
  unfold putErr
  rw [this]
  simp [h]
def skI : Ins := ⟨7, ⟨#[]⟩, ⟨#[]⟩⟩
theorem zrep_map {α : Type} (f : α → List D) (n : Nat) (a : α) : zrep n (f a) = ((List.replicate n a).map f).flatten := by
  induction n with
  | zero => rfl
  | succ n ih => rw [zrep_succ, ih, List.replicate_succ]; simp
end Go.HL
/- The law AttrJoins. -/
set_option linter.unusedVariables false
set_option linter.unusedSimpArgs false
set_option maxRecDepth 100000
set_option maxHeartbeats 1000000
namespace Go.HL
open Go.RowKit Go.Proofs

def upa : Attr := ⟨⟨#[97]⟩, ⟨#[49]⟩, true⟩
def upb : Attr := ⟨⟨#[98]⟩, ⟨#[50]⟩, false⟩
def upc : Attr := ⟨⟨#[99]⟩, ⟨#[51]⟩, false⟩
theorem up_join : joinA [upa, upb] [upc] = [upa, upc] := by decide +kernel
theorem up_find : findA [upa, upc] ⟨#[99]⟩ = some upc := by decide +kernel
theorem up_may : mayAttrs [upa, upc] = true := by decide +kernel
theorem up_may2 : mayAttrs [⟨⟨#[]⟩, ⟨#[]⟩, false⟩] = false := by decide +kernel
theorem foldA_mem (w : List Attr) (s : List Attr) (a : Attr) (h : a ∈ w.foldl addA s) : a ∈ s ∨ a ∈ w := by
  induction w generalizing s with
  | nil => exact .inl h
  | cons x w ih =>
    rcases ih (addA s x) h with h | h
    · unfold addA at h
      split at h
      · rcases List.mem_append.1 h with h | h
        · exact .inl h
        · exact .inr (by simp at h; simp [h])
      · exact .inl h
    · exact .inr (by simp [h])
theorem join_fits {l m : List Attr} (hl : FitsA l) (hm : FitsA m) : FitsA (joinA l m) := by
  refine ⟨by rw [joinA, List.length_take]; omega, fun a ha => ?_⟩
  rcases foldA_mem _ _ a (List.mem_of_mem_take ha) with h | h
  · exact hl.2 a (List.mem_filter.1 h).1
  · exact hm.2 a (List.mem_filter.1 h).1
theorem new_fits {m : List Attr} (hm : FitsA m) (h : m.length ≤ 500000) : FitsA (newA m) := by
  have h1 := someA_le m true
  have h2 := someA_le m false
  refine ⟨by rw [newA, List.length_append]; omega, fun a ha => ?_⟩
  rcases List.mem_append.1 ha with h | h
  · exact hm.2 a (List.mem_filter.1 h).1
  · exact hm.2 a (List.mem_filter.1 h).1
theorem nodup_of_at {l : List Attr} (h : ∀ (i : Nat) (a : Attr), l[i]? = some a → ¬ atA l a.name < (i : Int)) : (l.map (·.name)).Nodup := by
  rw [List.nodup_iff_pairwise_ne, List.pairwise_iff_getElem]
  intro i j hi hj hij e
  simp only [List.length_map] at hi hj
  simp only [List.getElem_map] at e
  refine h j l[j] (List.getElem?_eq_getElem hj) ?_
  have h1 : l.any (fun a => decide (a.name = l[j].name)) = true := List.any_eq_true.2 ⟨l[i], List.getElem_mem hi, by simpa using e⟩
  have h2 : l.findIdx (fun a => decide (a.name = l[j].name)) ≤ i := by
    refine Nat.le_of_not_lt fun hlt => ?_
    have := List.not_of_lt_findIdx hlt
    simp [e] at this
  simp only [atA, idx, h1, if_true]
  omega
theorem at_of_nodup {l : List Attr} (h : (l.map (·.name)).Nodup) (i : Nat) (a : Attr) (hi : l[i]? = some a) : ¬ atA l a.name < (i : Int) := by
  obtain ⟨hlt, rfl⟩ := List.getElem?_eq_some_iff.1 hi
  have : atA l l[i].name = i := by
    refine idx_at hi (by simp) fun j hj x hx => ?_
    obtain ⟨hjl, rfl⟩ := List.getElem?_eq_some_iff.1 hx
    rw [List.nodup_iff_pairwise_ne, List.pairwise_iff_getElem] at h
    have := h j i (by simpa using hjl) (by simpa using hlt) hj
    simpa using this
  omega
theorem mayA_iff (l : List Attr) : mayAttrs l = true ↔ l.length ≤ 8 ∧ (∀ a ∈ l, mayName a.name = true ∧ mayText a.value = true) ∧ (l.map (·.name)).Nodup := by
  unfold mayAttrs
  rw [Bool.and_eq_true, decide_eq_true_eq, List.all_eq_true]
  constructor
  · rintro ⟨h1, h2⟩
    have h3 : ∀ (i : Nat) (a : Attr), l[i]? = some a → mayName a.name = true ∧ mayText a.value = true ∧ ¬ atA l a.name < (i : Int) := by
      intro i a hi
      have := h2 i (by simpa using (List.getElem?_eq_some_iff.1 hi).1)
      rw [hi] at this
      simpa [and_assoc] using this
    refine ⟨h1, fun a ha => ?_, nodup_of_at fun i a hi => (h3 i a hi).2.2⟩
    obtain ⟨i, hi⟩ := List.getElem?_of_mem ha
    exact ⟨(h3 i a hi).1, (h3 i a hi).2.1⟩
  · rintro ⟨h1, h2, h3⟩
    refine ⟨h1, fun i hi => ?_⟩
    have hi : i < l.length := by simpa using hi
    rw [List.getElem?_eq_getElem hi]
    have h4 := h2 _ (List.getElem_mem hi)
    have h5 := at_of_nodup h3 i _ (List.getElem?_eq_getElem hi)
    simp [h4, h5]
theorem atA_neg (l : List Attr) (nm : ByteArray) : atA l nm < 0 ↔ nm ∉ l.map (·.name) := by
  rcases idx_range (fun a : Attr => decide (a.name = nm)) l with ⟨h1, h2⟩ | ⟨h1, h2, h3⟩
  · have : atA l nm = -1 := h1
    rw [this]
    simp only [List.any_eq_false, decide_eq_true_eq] at h2
    simp only [List.mem_map, not_exists, not_and]
    exact ⟨fun _ a ha => h2 a ha, fun _ => by omega⟩
  · have h1 : 0 ≤ atA l nm := h1
    simp only [List.any_eq_true, decide_eq_true_eq] at h3
    obtain ⟨a, ha, e⟩ := h3
    constructor
    · intro h; omega
    · intro h; exact absurd (List.mem_map.2 ⟨a, ha, e⟩) h
theorem fold_filter (w s : List Attr) (hw : (w.map (·.name)).Nodup) : w.foldl addA s = s ++ w.filter fun a => decide (atA s a.name < 0) := by
  induction w generalizing s with
  | nil => simp
  | cons a w ih =>
    simp only [List.map_cons, List.nodup_cons] at hw
    rw [List.foldl_cons]
    by_cases h : a.name ∈ s.map (·.name)
    · have e : addA s a = s := by rw [addA, if_neg (by rw [atA_neg]; simpa using h)]
      rw [e, ih s hw.2, List.filter_cons_of_neg (by rw [decide_eq_true_eq, atA_neg]; simpa using h)]
    · have e : addA s a = s ++ [a] := by rw [addA, if_pos (by rw [atA_neg]; exact h)]
      rw [e, ih _ hw.2, List.filter_cons_of_pos (by rw [decide_eq_true_eq, atA_neg]; exact h)]
      rw [List.append_assoc, List.singleton_append]
      congr 2
      apply List.filter_congr
      intro b hb
      have : b.name ≠ a.name := fun h' => hw.1 (List.mem_map.2 ⟨b, hb, h'⟩)
      rw [decide_eq_decide, atA_neg, atA_neg, List.map_append, List.mem_append]
      simp [this]
theorem some_nodup {l : List Attr} (h : (l.map (·.name)).Nodup) (st : Bool) : ((someA l st).map (·.name)).Nodup := h.sublist ((List.filter_sublist).map _)
theorem some_static (l : List Attr) (st : Bool) : ∀ a ∈ someA l st, a.static = st := fun a ha => by simpa using (List.mem_filter.1 ha).2
theorem some_self {l : List Attr} {st : Bool} (h : ∀ a ∈ l, a.static = st) : someA l st = l := List.filter_eq_self.2 fun a ha => by simp [h a ha]
theorem some_other {l : List Attr} {st : Bool} (h : ∀ a ∈ l, a.static = !st) : someA l st = [] := List.filter_eq_nil_iff.2 fun a ha => by simp [h a ha]
theorem hok (l m : List Attr) (hl : mayAttrs l = true) (hm : mayAttrs m = true) :
    mayAttrs (joinA l m) = true ∧ mayAttrs (newA m) = true ∧ joinA (joinA l m) m = joinA l m ∧ joinA (newA m) m = newA m ∧ (newA m).length = m.length := by
  obtain ⟨l1, l2, l3⟩ := (mayA_iff l).1 hl
  obtain ⟨m1, m2, m3⟩ := (mayA_iff m).1 hm
  let S := someA l true
  let W := someA m false
  let X := W.filter fun a => decide (atA S a.name < 0)
  have hW : (W.map (·.name)).Nodup := some_nodup m3 false
  have hj : joinA l m = (S ++ X).take 8 := by rw [joinA, fold_filter _ _ hW]
  have hS8 : S.length ≤ 8 := Nat.le_trans (someA_le l true) l1
  have hj2 : joinA l m = S ++ X.take (8 - S.length) := by rw [hj, List.take_append, List.take_of_length_le hS8]
  have hSX : ((S ++ X).map (·.name)).Nodup := by
    rw [List.map_append, List.nodup_append]
    refine ⟨some_nodup l3 true, hW.sublist ((List.filter_sublist).map _), ?_⟩
    intro a ha b hb e
    subst e
    obtain ⟨x, hx, e⟩ := List.mem_map.1 hb
    have := (List.mem_filter.1 hx).2
    rw [decide_eq_true_eq, atA_neg, e] at this
    exact this ha
  have perm : (newA m).Perm m := by
    have : someA m false = m.filter fun a => !decide (a.static = true) := List.filter_congr fun a _ => by cases a.static <;> rfl
    rw [newA, this, someA]
    exact List.filter_append_perm _ _
  have hnewS : someA (newA m) true = someA m true := by
    rw [newA, someA, List.filter_append]
    have e1 : (someA m true).filter (fun a => decide (a.static = true)) = someA m true := some_self (some_static m true)
    have e2 : (someA m false).filter (fun a => decide (a.static = true)) = [] := some_other (st := true) fun a ha => by simpa using some_static m false a ha
    rw [e1, e2, List.append_nil]
  refine ⟨?_, ?_, ?_, ?_, perm.length_eq⟩
  · rw [mayA_iff, hj]
    refine ⟨by rw [List.length_take]; omega, fun a ha => ?_, hSX.sublist ((List.take_sublist _ _).map _)⟩
    rcases List.mem_append.1 (List.mem_of_mem_take ha) with h | h
    · exact l2 a (List.mem_filter.1 h).1
    · exact m2 a (List.mem_filter.1 (List.mem_filter.1 h).1).1
  · rw [mayA_iff]
    exact ⟨by rw [perm.length_eq]; exact m1, fun a ha => m2 a (perm.mem_iff.1 ha), (perm.map _).nodup_iff.2 m3⟩
  · have e : someA (joinA l m) true = S := by
      rw [hj2, someA, List.filter_append]
      have e1 : S.filter (fun a => decide (a.static = true)) = S := some_self (some_static l true)
      have e2 : (X.take (8 - S.length)).filter (fun a => decide (a.static = true)) = [] := some_other (st := true) fun a ha => by
        simpa using some_static m false a (List.mem_filter.1 (List.mem_of_mem_take ha)).1
      rw [e1, e2, List.append_nil]
    rw [joinA, e, fold_filter _ _ hW]
    exact hj.symm
  · rw [joinA, hnewS, fold_filter _ _ hW]
    have : (someA m false).filter (fun a => decide (atA (someA m true) a.name < 0)) = someA m false := by
      rw [List.filter_eq_self]
      intro a ha
      have hnd : ((newA m).map (·.name)).Nodup := (perm.map _).nodup_iff.2 m3
      rw [newA, List.map_append, List.nodup_append] at hnd
      rw [decide_eq_true_eq, atA_neg]
      intro h
      exact hnd.2.2 _ h _ (List.mem_map.2 ⟨a, ha, rfl⟩) rfl
    show ((someA m true) ++ (someA m false).filter _).take 8 = _
    rw [this]
    exact List.take_of_length_le (by rw [show someA m true ++ someA m false = newA m from rfl, perm.length_eq]; exact m1)
end Go.HL
/- What the arguments of the laws read as. -/
set_option linter.unusedVariables false
set_option linter.unusedSimpArgs false
set_option maxRecDepth 100000
namespace Go.HL
open Go.RowKit Go.Proofs
theorem cod_str (n : Nat) : Cod Try.prog n 9 (fun s : ByteArray => [D.str s]) (fun s => s.size ≤ maxLen) := Cod.str (by kernel_rfl)
theorem cod_bool (n : Nat) : Cod Try.prog n 4 (fun s : Bool => [D.bool s]) (fun _ => True) := Cod.bool (by kernel_rfl)
theorem cod_int (n : Nat) : Cod Try.prog n 3 (fun i : Int => [D.int .i64 i]) (fun i => (Lit.int .i64 i).wf = true) := Cod.int (by kernel_rfl)
theorem arg_int : HasArg Try.prog 3 (fun i : Int => D.int .i64 i) (fun i => (Lit.int .i64 i).wf = true) := HasArg.int (by kernel_rfl)
theorem cod_attr (n : Nat) : Cod Try.prog n 132 attrD (fun a => a.name.size ≤ maxLen ∧ a.value.size ≤ maxLen) := by
  have base := Cod.structN (P := Try.prog) (t := 132) Try.underlying132 (l := [(9, 0, 1), (9, 1, 1), (4, 2, 1)]) (by kernel_rfl) (fun n => .cons (fun _ => rfl) (cod_str n) (.cons (fun _ => rfl) (cod_str n) (.cons (fun _ => rfl) (cod_bool n) (.nil _)))) (by kernel_rfl) n
  exact Cod.map base (fun p => ⟨p.1, p.2.1, p.2.2.1⟩) (fun _ => rfl) (fun p h => ⟨h.1, h.2.1⟩)
theorem arg_attrs : HasArg Try.prog 35 (fun l : List Attr => D.list (l.map attrD) .ro) (fun l => l.length ≤ maxLen ∧ ∀ a ∈ l, a.name.size ≤ maxLen ∧ a.value.size ≤ maxLen) :=
  HasArg.slice (k := 3) (by kernel_rfl) (by kernel_rfl) (by omega) attrD_length cod_attr
theorem cod_ins (n : Nat) : Cod Try.prog n 152 insD (fun a => a.a.size ≤ maxLen ∧ a.b.size ≤ maxLen) := by
  have base := Cod.structN (P := Try.prog) (t := 152) Try.underlying152 (l := [(3, 0, 1), (9, 1, 1), (9, 2, 1)]) (by kernel_rfl) (fun n => .cons (fun _ => rfl) (cod_int n) (.cons (fun _ => rfl) (cod_str n) (.cons (fun _ => rfl) (cod_str n) (.nil _)))) (by kernel_rfl) n
  exact Cod.map base (fun p => ⟨p.1, p.2.1, p.2.2.1⟩) (fun _ => rfl) (fun p h => ⟨h.2.1, h.2.2.1⟩)
theorem arg_ins : HasArg Try.prog 22 (fun l : List Ins => D.list (l.map insD) .ro) (fun l => l.length ≤ maxLen ∧ ∀ a ∈ l, a.a.size ≤ maxLen ∧ a.b.size ≤ maxLen) :=
  HasArg.slice (k := 3) (by kernel_rfl) (by kernel_rfl) (by omega) insD_length cod_ins
theorem cod_byte (n : Nat) : Cod Try.prog n 5 bD (fun _ => True) := by
  have base : Cod Try.prog n 5 (fun i : Int => [D.int .u8 i]) (fun i => (Lit.int .u8 i).wf = true) := Cod.int (by kernel_rfl)
  refine Cod.mapG base UInt8.ofInt (fun a h => ?_) (fun _ _ => trivial)
  have : (0 : Int) ≤ a ∧ a ≤ 255 := by simpa [Lit.wf, IntKind.has, IntKind.min, IntKind.max, IntKind.signed, IntKind.bits] using h
  have e : ((UInt8.ofInt a).toNat : Int) = a := by simp [UInt8.ofInt]; omega
  rw [bD_def, e]
end Go.HL
