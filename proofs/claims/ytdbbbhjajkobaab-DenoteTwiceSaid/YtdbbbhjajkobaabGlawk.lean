/- The laws CodePuts, CodeGets, CodeBack. -/
import Derived.Test.YtdbbbhjajkobaabGcodb
set_option linter.unusedVariables false
set_option linter.unusedSimpArgs false
set_option maxRecDepth 100000
set_option maxHeartbeats 1000000
namespace Go.HL
open Go.RowKit Go.Proofs

def fewI (l : List Ins) : Bool := decide (l.length ≤ 150) && l.all fun a => decide (a.a.size ≤ 300) && decide (a.b.size ≤ 300)
theorem fewI_fits {l : List Ins} (h : fewI l = true) : l.length ≤ 150 ∧ ∀ a ∈ l, a.a.size ≤ 300 ∧ a.b.size ≤ 300 := by
  simpa [fewI] using h
theorem fewI_fit {l : List Ins} (h : fewI l = true) : FitL l := by
  obtain ⟨h1, h2⟩ := fewI_fits h
  exact ⟨by omega, fun x hx => by have := h2 x hx; omega⟩
theorem c_few12 (l : List Ins) (tok : Tok) : Ret Try.prog 63 [.list (l.map insD) tok] (.int .i64 (if fewI l then 1 else 0)) := by
  refine Ret.of fun σ => ?_
  refine HCalls.start mixed false _ _ (fn := Try.f63) (by kernel_rfl) rfl (by kernel_rfl) rfl (by kernel_rfl) (by kernel_rfl) ?_
  simp (maxSteps := 2000000) +contextual [-decide_eq_true_eq, -decide_eq_false_iff_not]
  let ok : Ins → Bool := fun a => decide (a.a.size ≤ 300) && decide (a.b.size ≤ 300)
  refine hloop_fix (fun n e => ∃ i : Nat, i + n = l.length ∧ i ≤ 150 ∧ e 0 = .list (l.map insD) tok ∧ e 3 = .int .i64 i ∧ Front ok l i) l.length ?_ ?_
  · exact ⟨0, by simp [Front.zero]⟩
  · rintro n e ⟨i, hi, hi2, e0, e3, hok⟩
    have no : ∀ x, l[i]? = some x → ok x = false → fewI l = false := fun x hx h => by
      simp only [fewI, Bool.and_eq_false_iff]
      right
      exact all_no hx h
    have go : ∀ x, l[i]? = some x → i < 150 → ok x = true → ∃ m, m < n ∧ ∃ i', i' + m = l.length ∧ i' ≤ 150 ∧ IntKind.i64.wrap (↑i + 1) = ↑i' ∧ Front ok l i' := fun x hx h20 h => by
      have := (List.getElem?_eq_some_iff.1 hx).1
      exact ⟨n - 1, by omega, i + 1, by omega, by omega, by rw [wrap_i64] <;> omega, hok.succ hx h⟩
    have yes : ¬ i < l.length → l.length ≤ 150 → fewI l = true := fun h1 h2 => by
      have : l.all ok = true := hok.all (by omega)
      simp only [fewI, Bool.and_eq_true, decide_eq_true_eq]
      exact ⟨h2, this⟩
    have big : ¬ l.length ≤ 150 → fewI l = false := fun h => by simp [fewI, h]
    simp (maxSteps := 2000000) +contextual [e0, e3, insD_length, insD_def, -decide_eq_true_eq, -decide_eq_false_iff_not]
    grind
theorem up12_put : putErr [⟨4, ⟨#[104, 105]⟩, ⟨#[]⟩⟩] = 0 ∧ putOut [⟨4, ⟨#[104, 105]⟩, ⟨#[]⟩⟩] = [4, 2, 104, 105] := by decide +kernel
theorem up12_get : getP [9] = ([], 7) := by decide +kernel
/-! What was put is got, and the other way round. -/
theorem may_op {x : Ins} (h : mayIns x = true) : (1 ≤ x.op ∧ x.op ≤ 8) ∧ (texts x.op = 0 → x.a = ⟨#[]⟩ ∧ x.b = ⟨#[]⟩) ∧ (texts x.op = 1 → x.b = ⟨#[]⟩) := by
  unfold mayIns at h
  unfold texts
  split at h
  · rename_i e; rw [e]; refine ⟨by decide, ?_, ?_⟩ <;> simp
  · split at h
    · rename_i e; rw [e]; refine ⟨by decide, ?_, ?_⟩ <;> simp
    · split at h
      · rename_i e; rw [e]; simp only [Bool.and_eq_true, decide_eq_true_eq] at h; refine ⟨by decide, ?_, ?_⟩ <;> simp [h.2]
      · split at h
        · rename_i e; rcases e with e | e <;> rw [e] <;> (refine ⟨by decide, ?_, ?_⟩ <;> simp)
        · split at h
          · rename_i e
            simp only [Bool.and_eq_true, decide_eq_true_eq] at h
            refine ⟨by omega, fun _ => h, fun _ => h.2⟩
          · cases h
theorem txtP_txt (s : ByteArray) (h : s.size ≤ 255) (r : List UInt8) : txtP (txt s ++ r) = some (s, r) := by
  have e1 : (UInt8.ofNat s.size).toNat = s.size := by simp; omega
  have e2 : s.data.toList.length = s.size := by simp
  simp only [txt, List.cons_append, txtP, e1]
  rw [if_pos (by rw [List.length_append, e2]; omega)]
  congr 2
  · rw [← e2, List.take_left' rfl]
  · rw [← e2, List.drop_left' rfl]
theorem oneP_put (x : Ins) (h : mayIns x = true) (r : List UInt8) : oneP (putI x ++ r) = some (x, r) := by
  obtain ⟨⟨h1, h2⟩, h3, h4⟩ := may_op h
  obtain ⟨ha, hb⟩ := mayIns_le h
  have eo : ((UInt8.ofInt x.op).toNat : Int) = x.op := by simp [UInt8.ofInt]; omega
  have key : ∀ q, oneP (UInt8.ofInt x.op :: q) = if texts x.op = 0 then checkI ⟨x.op, ⟨#[]⟩, ⟨#[]⟩⟩ q else match txtP q with
    | none => none
    | some (a, r1) => if texts x.op = 1 then checkI ⟨x.op, a, ⟨#[]⟩⟩ r1 else match txtP r1 with
      | none => none
      | some (b, r2) => checkI ⟨x.op, a, b⟩ r2 := fun q => by simp only [oneP, eo]; rfl
  have h5 : texts x.op = 0 ∨ texts x.op = 1 ∨ texts x.op = 2 := by have := texts_le x.op; omega
  unfold putI
  rw [List.cons_append, key]
  obtain ⟨op, a, b⟩ := x
  simp only at *
  rcases h5 with h5 | h5 | h5
  · obtain ⟨rfl, rfl⟩ := h3 h5
    simp [h5, checkI, h]
  · obtain rfl := h4 h5
    simp [h5, txtP_txt a (by omega), checkI, h]
  · simp [h5, txtP_txt a (by omega), txtP_txt b (by omega), checkI, h, List.append_assoc]
theorem get_put (l : List Ins) : ∀ (n : Nat) (out : List Ins), l.all mayIns = true → (putL l).length ≤ n → out.length + l.length ≤ 120 → getF n (putL l) out = (out ++ l, 0) := by
  induction l with
  | nil => intro n out _ _ _; cases n <;> simp [getF, putL]
  | cons x l ih =>
    intro n out hm hn hl
    simp only [List.all_cons, Bool.and_eq_true] at hm
    have e : putL (x :: l) = putI x ++ putL l := by simp [putL]
    rw [e] at hn ⊢
    have hx : 0 < (putI x).length := by simp [putI]
    rw [List.length_append] at hn
    obtain ⟨m, rfl⟩ : ∃ m, n = m + 1 := ⟨n - 1, by omega⟩
    simp only [List.length_cons] at hl
    have hne : putI x ++ putL l ≠ [] := by intro h; have := congrArg List.length h; simp at this; simp [putI] at this
    have := ih m (out ++ [x]) hm.2 (by omega) (by simp; omega)
    simp only [getF, if_neg hne, oneP_put x hm.1, this, List.append_assoc, List.singleton_append]
    rw [if_neg (by omega)]
theorem txtP_inv {l r : List UInt8} {s : ByteArray} (h : txtP l = some (s, r)) : l = txt s ++ r := by
  cases l with
  | nil => simp [txtP] at h
  | cons c t =>
    simp only [txtP] at h
    split at h
    · rename_i hc
      injection h with h; injection h with h1 h2
      subst h1 h2
      have e1 : (⟨⟨t.take c.toNat⟩⟩ : ByteArray).size = c.toNat := by simp [ByteArray.size]; omega
      simp [txt, e1]
    · cases h
theorem oneP_inv {l r : List UInt8} {x : Ins} (h : oneP l = some (x, r)) : l = putI x ++ r ∧ mayIns x = true := by
  cases l with
  | nil => simp [oneP] at h
  | cons u t =>
    have eu : UInt8.ofInt (u.toNat : Int) = u := by
      have := u8_lt u
      unfold UInt8.ofInt
      rw [Int.emod_eq_of_lt (by omega) (by omega)]
      simp
    simp only [oneP, checkI] at h
    split at h
    · rename_i h0
      split at h
      · rename_i hm
        injection h with h; injection h with h1 h2; subst h1 h2
        exact ⟨by simp [putI, h0, eu], hm⟩
      · cases h
    · rename_i h0
      split at h
      · cases h
      · rename_i a r1 ht
        have e1 := txtP_inv ht
        split at h
        · rename_i h1'
          split at h
          · rename_i hm
            injection h with h; injection h with h1 h2; subst h1 h2
            exact ⟨by simp [putI, h1', eu, e1], hm⟩
          · cases h
        · rename_i h1'
          split at h
          · cases h
          · rename_i b r2 ht2
            have e2 := txtP_inv ht2
            split at h
            · rename_i hm
              injection h with h; injection h with h1 h2; subst h1 h2
              have h2' : texts u.toNat = 2 := by have := texts_le u.toNat; omega
              exact ⟨by simp [putI, h2', eu, e1, e2], hm⟩
            · cases h
theorem get_inv : ∀ (n : Nat) (l : List UInt8) (out p : List Ins), l.length ≤ n → out.length ≤ 120 → getF n l out = (p, 0) → ∃ q, p = out ++ q ∧ putL q = l ∧ q.all mayIns = true ∧ p.length ≤ 120 := by
  intro n
  induction n with
  | zero =>
    intro l out p hl ho h
    have : l = [] := List.eq_nil_of_length_eq_zero (by omega)
    subst this
    simp only [getF] at h
    injection h with h1 h2
    exact ⟨[], by simp [h1], rfl, rfl, by rw [← h1]; exact ho⟩
  | succ n ih =>
    intro l out p hl ho h
    simp only [getF] at h
    split at h
    · rename_i hnil
      injection h with h1 h2
      subst hnil
      exact ⟨[], by simp [h1], rfl, rfl, by rw [← h1]; exact ho⟩
    · split at h
      · injection h with h1 h2; cases h2
      · rename_i x r hx
        split at h
        · injection h with h1 h2; cases h2
        · obtain ⟨e, hm⟩ := oneP_inv hx
          have hlt := oneP_lt hx
          obtain ⟨q, q1, q2, q3, q4⟩ := ih r (out ++ [x]) p (by omega) (by simp; omega) h
          exact ⟨x :: q, by rw [q1]; simp, by rw [e, ← q2]; simp [putL], by simp [hm, q3], q4⟩
theorem getF_le : ∀ (n : Nat) (l : List UInt8) (out : List Ins), out.length ≤ 120 → (getF n l out).2 ≤ 13 ∧ (getF n l out).1.length ≤ 120 := by
  intro n
  induction n with
  | zero => intro l out ho; exact ⟨by simp [getF], ho⟩
  | succ n ih =>
    intro l out ho
    simp only [getF]
    split
    · exact ⟨Nat.zero_le _, ho⟩
    · split
      · simp
      · split
        · simp
        · exact ih _ _ (by simp; omega)
theorem get_many (k : Nat) : ∀ (n : Nat) (out : List Ins), k ≤ n → out.length ≤ 120 → 120 < out.length + k → (getF n (List.replicate k 7) out) = ([], 13) := by
  induction k with
  | zero => intro n out _ h1 h2; omega
  | succ k ih =>
    intro n out hn h1 h2
    obtain ⟨m, rfl⟩ : ∃ m, n = m + 1 := ⟨n - 1, by omega⟩
    have e : oneP (List.replicate (k + 1) 7) = some (⟨7, ⟨#[]⟩, ⟨#[]⟩⟩, List.replicate k 7) := by
      have : oneP (List.replicate (k + 1) 7) = checkI ⟨7, ⟨#[]⟩, ⟨#[]⟩⟩ (List.replicate k 7) := by rw [List.replicate_succ]; rfl
      rw [this]
      have : mayIns ⟨7, ⟨#[]⟩, ⟨#[]⟩⟩ = true := by decide
      simp [checkI, this]
    simp only [getF, e]
    rw [if_neg (by simp)]
    by_cases h3 : out.length = 120
    · rw [if_pos h3]
    · rw [if_neg h3]
      exact ih m _ (by omega) (by simp; omega) (by simp; omega)
theorem put_many (k : Nat) (h : 120 < k) : putErr (List.replicate k ⟨7, ⟨#[]⟩, ⟨#[]⟩⟩) = 13 := by
  have : (List.replicate k (⟨7, ⟨#[]⟩, ⟨#[]⟩⟩ : Ins)).all mayIns = true := by
    rw [List.all_eq_true]
    intro x hx
    rw [(List.mem_replicate.1 hx).2]
    decide
  unfold putErr
  rw [this]
  simp [h]
def skI : Ins := ⟨7, ⟨#[]⟩, ⟨#[]⟩⟩
theorem zrep_map {α : Type} (f : α → List D) (n : Nat) (a : α) : zrep n (f a) = ((List.replicate n a).map f).flatten := by
  induction n with
  | zero => rfl
  | succ n ih => rw [zrep_succ, ih, List.replicate_succ]; simp
end Go.HL
