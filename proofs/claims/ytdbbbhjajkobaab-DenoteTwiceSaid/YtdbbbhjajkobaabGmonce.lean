/- Each old node is taken once, or kept, or gone. -/
import Derived.Test.YtdbbbhjajkobaabGmlaw
import Derived.Test.YtdbbbhjajkobaabGokw
set_option linter.unusedVariables false
set_option linter.unusedSimpArgs false
set_option maxRecDepth 100000
set_option maxHeartbeats 8000000
namespace Go.HL
open Go.RowKit Go.Proofs

theorem takes_facts {w : Want} {o : Old} {f : Bool} (h : takesP w o f = true) : (w.kind = 1 ∧ o.tag = w.tag ∧ o.key = w.key) ∨ (w.kind = 2 ∧ o.tag = ⟨#[]⟩) ∨ w.kind = 3 := by
  unfold takesP at h
  split at h
  · rename_i k; simp at h; exact .inl ⟨k, h.1, h.2.1⟩
  · split at h
    · rename_i k; simp at h; exact .inr (.inl ⟨k, h.2⟩)
    · split at h
      · rename_i k; exact .inr (.inr k)
      · cases h
theorem gAt_takes {os : List Old} {w : Want} {l : List Nat} {j : Nat} (h : gAt os w l = j) : ∃ f, takesP w (oAt os j) f = true := by
  cases l with
  | nil => simp only [gAt] at h; omega
  | cons i r =>
    unfold gAt at h
    simp only at h
    split at h
    · rename_i ht
      have : i = j := by omega
      subst this; exact ⟨_, ht⟩
    · cases hf : r.find? fun j => takesP w (oAt os j) false with
      | none => rw [hf] at h; simp only at h; omega
      | some k =>
        rw [hf] at h; simp only at h
        have : k = j := by omega
        subst this; exact ⟨false, by simpa using List.find?_some hf⟩
theorem gAt_none {os : List Old} {w : Want} {l : List Nat} (h : gAt os w l = -1) (k1 : w.kind = 1) (hk : w.key ≠ ⟨#[]⟩) : ∀ j ∈ l, ¬ ((oAt os j).tag = w.tag ∧ (oAt os j).key = w.key) := by
  intro j hj ⟨e1, e2⟩
  have ht : ∀ f, takesP w (oAt os j) f = true := fun f => by simp [takesP, k1, e1, e2, hk]
  cases l with
  | nil => simp at hj
  | cons i r =>
    unfold gAt at h
    simp only at h
    split at h
    · omega
    · rename_i hn
      rcases List.mem_cons.1 hj with rfl | hj
      · exact hn (ht true)
      · cases hf : r.find? fun j => takesP w (oAt os j) false with
        | none =>
          rw [List.find?_eq_none] at hf
          exact hf j hj (ht false)
        | some k => rw [hf] at h; simp only at h; omega
def st (os : List Old) (ws : List Want) (i : Nat) : MSt := (ws.take i).foldl (mstep os) ⟨List.range os.length, [], []⟩
theorem st_zero (os : List Old) (ws : List Want) : st os ws 0 = ⟨List.range os.length, [], []⟩ := rfl
theorem st_succ (os : List Old) {ws : List Want} {i : Nat} {w : Want} (h : ws[i]? = some w) : st os ws (i + 1) = mstep os (st os ws i) w := by
  unfold st; rw [take_next h, List.foldl_append]; rfl
theorem st_all (os : List Old) (ws : List Want) : st os ws ws.length = mof os ws := by unfold st mof; rw [List.take_length]
structure StF (os : List Old) (m : MSt) : Prop where
  srt : Srt os.length m.left
  nd : (m.left ++ m.kept).Nodup
  lt : ∀ k ∈ m.kept, k < os.length
theorem StF.step {os : List Old} {m : MSt} (h : StF os m) (w : Want) : StF os (mstep os m w) := by
  refine ⟨mstep_srt os m w h.srt, ?_, ?_⟩
  · rw [mstep_g os m w h.srt]
    simp only
    have hl : ∀ j, (m.left.erase j ++ m.kept).Nodup := fun j => h.nd.sublist (List.Sublist.append List.erase_sublist (List.Sublist.refl _))
    have hc : ∀ a b : List Nat, (a ++ b).Nodup → (b ++ a).Nodup := fun a b hh => (List.perm_append_comm.nodup_iff).1 hh
    split
    · split
      · simpa using hc _ _ (hl _)
      · simpa using hc _ _ h.nd
    · split
      · exact hl _
      · exact h.nd
  · rw [mstep_g os m w h.srt]
    simp only
    intro k hk
    split at hk
    · simp only [List.mem_append] at hk
      rcases hk with hk | hk
      · exact h.lt k hk
      · split at hk
        · exact h.srt.lt k (List.mem_of_mem_erase hk)
        · exact h.srt.lt k hk
    · exact h.lt k hk
theorem st_f (os : List Old) (ws : List Want) : ∀ i, StF os (st os ws i) := by
  intro i
  induction i with
  | zero => exact ⟨Srt.all _, by simpa [st] using List.nodup_range, by simp [st]⟩
  | succ i ih =>
    cases h : ws[i]? with
    | none =>
      have : st os ws (i + 1) = st os ws i := by
        have hi : ws.length ≤ i := List.getElem?_eq_none_iff.1 h
        unfold st; rw [List.take_of_length_le (by omega), List.take_of_length_le (by omega)]
      rw [this]; exact ih
    | some w => rw [st_succ os h]; exact ih.step w
theorem st_len (os : List Old) (ws : List Want) : ∀ i, i ≤ ws.length → (st os ws i).take.length = i := by
  intro i
  induction i with
  | zero => intro _; rfl
  | succ i ih =>
    intro h
    rw [st_succ os (List.getElem?_eq_getElem (show i < ws.length by omega)), mstep_g os _ _ (st_f os ws i).srt]
    simp only
    split <;> simp [ih (by omega)]
theorem st_pre (os : List Old) (ws : List Want) : ∀ k i, i + k ≤ ws.length → ∃ r, (st os ws (i + k)).take = (st os ws i).take ++ r := by
  intro k
  induction k with
  | zero => intro i _; exact ⟨[], by simp⟩
  | succ k ih =>
    intro i h
    obtain ⟨r, hr⟩ := ih i (by omega)
    rw [← Nat.add_assoc, st_succ os (List.getElem?_eq_getElem (show i + k < ws.length by omega)), mstep_g os _ _ (st_f os ws (i + k)).srt]
    simp only
    split <;> exact ⟨r ++ [gAt os ws[i + k] (st os ws (i + k)).left], by simp only [hr, List.append_assoc]⟩
theorem st_take (os : List Old) {ws : List Want} {i : Nat} {w : Want} (h : ws[i]? = some w) : (mof os ws).take[i]? = some (gAt os w (st os ws i).left) := by
  have hi := (List.getElem?_eq_some_iff.1 h).1
  obtain ⟨r, hr⟩ := st_pre os ws (ws.length - (i + 1)) (i + 1) (by omega)
  rw [show i + 1 + (ws.length - (i + 1)) = ws.length by omega, st_all] at hr
  have h1 : (st os ws (i + 1)).take = (st os ws i).take ++ [gAt os w (st os ws i).left] := by
    rw [st_succ os h, mstep_g os _ _ (st_f os ws i).srt]
    simp only
    split <;> rfl
  have hl := st_len os ws i (by omega)
  rw [hr, h1, List.append_assoc, List.getElem?_append_right (by omega), hl]
  simp
theorem last_at : ∀ {ws : List Want}, LastAll ws → ∀ {i : Nat} {w : Want}, ws[i]? = some w → i + 1 < ws.length → w.kind ≠ 4 := by
  intro ws
  induction ws with
  | nil => intro _ i w h; simp at h
  | cons v r ih =>
    intro hl i w h hi
    cases i with
    | zero =>
      simp at h; subst h
      intro h4
      have := hl.1 h4
      subst this; simp at hi
    | succ i => exact ih hl.2 (by simpa using h) (by simpa using hi)
theorem st_kept (os : List Old) {ws : List Want} (hl : LastAll ws) : ∀ i, i < ws.length → (st os ws i).kept = [] := by
  intro i
  induction i with
  | zero => intro _; rfl
  | succ i ih =>
    intro h
    have hw := List.getElem?_eq_getElem (show i < ws.length by omega)
    have h4 := last_at hl hw h
    rw [st_succ os hw, mstep_g os _ _ (st_f os ws i).srt]
    simp only [h4, if_false]
    exact ih (by omega)

/-- Numbers, place by place. -/
def nl (n : Nat) (p : Nat → Int) : List D := (List.range n).map fun k => D.int .i64 (p k)
@[simp] theorem nl_len (n : Nat) (p : Nat → Int) : (nl n p).length = n := by simp [nl]
theorem nl_get {n : Nat} (p : Nat → Int) {k : Nat} (h : k < n) : (nl n p)[k]? = some (.int .i64 (p k)) := by simp [nl, h]
theorem nl_at {n : Nat} (p : Nat → Int) {k : Nat} (h : k < n) : List.take 1 (List.drop k (nl n p)) = [.int .i64 (p k)] := by
  have hk : k < (nl n p).length := by simpa using h
  have := nl_get p h
  rw [List.getElem?_eq_getElem hk] at this
  injection this with this
  rw [List.drop_eq_getElem_cons hk, this]; rfl
theorem nl_congr {n : Nat} {p q : Nat → Int} (h : ∀ k, k < n → p k = q k) : nl n p = nl n q := by
  unfold nl
  refine List.map_congr_left fun k hk => ?_
  rw [h k (by simpa using hk)]
theorem nl_set {n : Nat} (p : Nat → Int) {k : Nat} (h : k < n) (b : Int) : spl (nl n p) k [.int .i64 b] = nl n fun x => if x = k then b else p x := by
  rw [spl_one _ _ _ (by simpa using h)]
  apply List.ext_getElem?
  intro i
  by_cases hi : i < n
  · by_cases hik : k = i
    · subst hik; rw [List.getElem?_set_self (by simpa using h), nl_get _ h]; simp
    · rw [List.getElem?_set_ne hik, nl_get _ hi, nl_get _ hi, if_neg (Ne.symm hik)]
  · rw [List.getElem?_eq_none (by simp; omega), List.getElem?_eq_none (by simp; omega)]
theorem nl_zero (n : Nat) : zrep n [D.lit (Value.int .i64 0)] = nl n fun _ => 0 := by
  apply List.ext_getElem?
  intro i
  by_cases hi : i < n
  · rw [nl_get _ hi, zrep_get _ _ _ (by simpa using hi)]; simp [Nat.mod_one]
  · rw [List.getElem?_eq_none (by simp [zrep_len]; omega), List.getElem?_eq_none (by simp; omega)]
def mofA (M : MSt) : List D := [.list (M.take.map intD) .ro, .list (M.kept.map natD) .ro, .list (M.left.map natD) .ro]
/-- How often each was met: not what is left, or kept. -/
def met (m : MSt) (k : Nat) : Int := if inL (m.left ++ m.kept) k then 0 else 1
theorem met_start (os : List Old) (ws : List Want) {k : Nat} (h : k < os.length) : met (st os ws 0) k = 0 := by simp [met, st, inL, h]
theorem met_skip {os : List Old} {m : MSt} {w : Want} (hf : StF os m) (h : gAt os w m.left = -1) (k : Nat) : met (mstep os m w) k = met m k := by
  rw [mstep_g os m w hf.srt, h]
  simp only [met, inL]
  split <;> simp [or_comm]
theorem met_take {os : List Old} {m : MSt} {w : Want} {j : Nat} (hf : StF os m) (h : gAt os w m.left = j) (hj : j ∈ m.left) (k : Nat) : met (mstep os m w) k = if k = j then 1 else met m k := by
  rw [mstep_g os m w hf.srt, h]
  have hjk : j ∉ m.kept := fun hh => by
    have := (List.nodup_append.1 hf.nd).2.2 j hj j hh
    exact this rfl
  have hne := hf.srt.nodup
  simp only [met, inL]
  by_cases hk : k = j
  · subst hk
    split <;> simp [hjk, hne.mem_erase_iff]
  · split <;> simp [hk, hne.mem_erase_iff, or_comm]
theorem met_old {m : MSt} {j : Nat} (hj : j ∈ m.left) : met m j = 0 := by simp [met, inL, hj]
end Go.HL
