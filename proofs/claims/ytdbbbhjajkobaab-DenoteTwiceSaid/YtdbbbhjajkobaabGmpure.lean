/- Which of the old nodes becomes which: the plain law. -/
import Derived.Test.YtdbbbhjajkobaabGmatch
import Derived.Test.YtdbbbhjajkobaabH3
set_option linter.unusedVariables false
set_option linter.unusedSimpArgs false
set_option maxRecDepth 100000
set_option maxHeartbeats 1000000
namespace Go.HL
open Go.RowKit Go.Proofs

def intD (n : Int) : List D := [.int .i64 n]
theorem intD_length (n : Int) : (intD n).length = 1 := rfl
theorem intD_def (n : Int) : intD n = [.int .i64 n] := rfl
/-- What is left, which take which, what is kept. -/
structure MSt where
  left : List Nat
  take : List Int
  kept : List Nat
def mstep (os : List Old) (m : MSt) (w : Want) : MSt :=
  let at' := whichP os m.left w
  let t := if 0 ≤ at' then ((m.left.getD at'.toNat 0 : Nat) : Int) else -1
  let l := if 0 ≤ at' then m.left.eraseIdx at'.toNat else m.left
  if w.kind = 4 then ⟨[], m.take ++ [t], m.kept ++ l⟩ else ⟨l, m.take ++ [t], m.kept⟩
def mof (os : List Old) (ws : List Want) : MSt := ws.foldl (mstep os) ⟨List.range os.length, [], []⟩
def oAt (os : List Old) (i : Nat) : Old := os.getD i ⟨⟨#[]⟩, ⟨#[]⟩⟩
theorem oAt_def (os : List Old) (i : Nat) : os.getD i ⟨⟨#[]⟩, ⟨#[]⟩⟩ = oAt os i := rfl
/-- The one of what is left that is taken; -1: none. -/
def gAt (os : List Old) (w : Want) (l : List Nat) : Int := match l with
  | [] => -1
  | i :: r => if takesP w (oAt os i) true then i else match r.find? fun j => takesP w (oAt os j) false with
    | some j => j
    | none => -1
theorem idx_cons {α : Type} (p : α → Bool) (a : α) (r : List α) : idx p (a :: r) = if p a then 0 else if r.any p then (r.findIdx p : Int) + 1 else -1 := by
  unfold idx
  cases h : p a with
  | true => simp [List.findIdx_cons, h]
  | false => cases h2 : r.any p <;> simp [List.findIdx_cons, h, h2]
theorem find_at {α : Type} (p : α → Bool) (r : List α) (h : r.any p = true) : ∃ hl : r.findIdx p < r.length, r.find? p = some r[r.findIdx p] := by
  have hl : r.findIdx p < r.length := List.findIdx_lt_length_of_exists (by simpa using h)
  refine ⟨hl, ?_⟩
  induction r with
  | nil => simp at h
  | cons a r ih =>
    cases hp : p a with
    | true => simp [List.find?_cons, List.findIdx_cons, hp]
    | false =>
      have h' : r.any p = true := by simpa [hp] using h
      have hl' : r.findIdx p < r.length := List.findIdx_lt_length_of_exists (by simpa using h')
      have := ih h' hl'
      simp [List.find?_cons, List.findIdx_cons, hp, this]
theorem whichG (os : List Old) (w : Want) (l : List Nat) (hl : ∀ i ∈ l, i < os.length) :
    (whichP os l w = -1 ∧ gAt os w l = -1) ∨ ∃ p : Nat, whichP os l w = p ∧ ∃ h : p < l.length, gAt os w l = (l[p] : Nat) := by
  cases l with
  | nil => exact .inl ⟨rfl, rfl⟩
  | cons i r =>
    have key : ∀ j, j < os.length → decide (os[j]? = some ⟨w.tag, w.key⟩) = decide (oAt os j = ⟨w.tag, w.key⟩) := fun j hj => by
      rw [← oAt_def, List.getD_eq_getElem?_getD, List.getElem?_eq_getElem hj]; simp
    have hi := hl i (by simp)
    have ext : ∀ o : Old, o = ⟨w.tag, w.key⟩ ↔ o.tag = w.tag ∧ o.key = w.key := fun o => by cases o; simp
    have hWP : ∀ o, oAt os i = o → whichP os (i :: r) w = if w.kind = 3 ∨ w.kind = 2 ∧ o.tag = ⟨#[]⟩ ∨ w.kind = 1 ∧ w.key = ⟨#[]⟩ ∧ o = ⟨w.tag, ⟨#[]⟩⟩ then 0
        else if w.kind = 1 ∧ ¬ w.key = ⟨#[]⟩ then idx (fun i => decide (os[i]? = some ⟨w.tag, w.key⟩)) (i :: r) else -1 := by rintro o rfl; rfl
    have hG : ∀ o, oAt os i = o → gAt os w (i :: r) = if takesP w o true then (i : Int) else match r.find? fun j => takesP w (oAt os j) false with
        | some j => j
        | none => -1 := by rintro o rfl; rfl
    obtain ⟨o, ho⟩ : ∃ o, oAt os i = o := ⟨_, rfl⟩
    rw [hWP o ho, hG o ho]
    have hfalse : ∀ (f : Bool) , (∀ j ∈ r, takesP w (oAt os j) false = false) → (r.find? fun j => takesP w (oAt os j) false) = none := fun _ h => by
      rw [List.find?_eq_none]; intro j hj; simp [h j hj]
    by_cases k3 : w.kind = 3
    · right
      refine ⟨0, by simp [k3], by simp, ?_⟩
      simp [takesP, k3]
    · by_cases k2 : w.kind = 2
      · by_cases ht : o.tag = ⟨#[]⟩
        · right
          refine ⟨0, by simp [k2, ht], by simp, ?_⟩
          simp [takesP, k2, ht]
        · left
          refine ⟨by simp [k2, ht], ?_⟩
          rw [hfalse true (fun j _ => by simp [takesP, k2])]
          simp [takesP, k2, ht]
      · by_cases k1 : w.kind = 1
        · by_cases hk : w.key = ⟨#[]⟩
          · by_cases hoo : o = ⟨w.tag, ⟨#[]⟩⟩
            · right
              refine ⟨0, by simp [k1, hk, hoo], by simp, ?_⟩
              simp [takesP, k1, hk, hoo]
            · left
              refine ⟨by simp [k1, hk, hoo], ?_⟩
              rw [hfalse true (fun j _ => by simp [takesP, k1, hk])]
              have : ¬ (o.tag = w.tag ∧ o.key = ⟨#[]⟩) := fun h => hoo (by cases o; simp_all)
              simp [takesP, k1, hk]
              intro h1 h2
              exact absurd ⟨h1, h2⟩ this
          · have tk : ∀ (o : Old) f, takesP w o f = decide (o = ⟨w.tag, w.key⟩) := fun o f => by
              simp [takesP, k1, hk, ext, Bool.decide_and]
            have hw : (if w.kind = 3 ∨ w.kind = 2 ∧ o.tag = ⟨#[]⟩ ∨ w.kind = 1 ∧ w.key = ⟨#[]⟩ ∧ o = ⟨w.tag, ⟨#[]⟩⟩ then (0 : Int)
                else if w.kind = 1 ∧ ¬ w.key = ⟨#[]⟩ then idx (fun i => decide (os[i]? = some ⟨w.tag, w.key⟩)) (i :: r) else -1) = idx (fun i => decide (os[i]? = some ⟨w.tag, w.key⟩)) (i :: r) := by
              rw [if_neg (by simp [k1, hk]), if_pos ⟨k1, hk⟩]
            rw [hw, idx_cons, key i hi, ho]
            have hfun : (fun j => takesP w (oAt os j) false) = fun j => decide (oAt os j = ⟨w.tag, w.key⟩) := by funext j; rw [tk]
            rw [hfun, tk]
            by_cases hoo : o = ⟨w.tag, w.key⟩
            · right
              exact ⟨0, by simp [hoo], by simp, by simp [hoo]⟩
            · rw [if_neg (by simp [hoo])]
              have hany : (r.any fun i => decide (os[i]? = some ⟨w.tag, w.key⟩)) = r.any fun j => decide (oAt os j = ⟨w.tag, w.key⟩) := by
                rw [Bool.eq_iff_iff, List.any_eq_true, List.any_eq_true]
                constructor
                · rintro ⟨j, hj, h⟩; exact ⟨j, hj, by rw [← key j (hl j (by simp [hj]))]; exact h⟩
                · rintro ⟨j, hj, h⟩; exact ⟨j, hj, by rw [key j (hl j (by simp [hj]))]; exact h⟩
              cases ha : r.any fun i => decide (os[i]? = some ⟨w.tag, w.key⟩) with
              | false =>
                left
                rw [hany] at ha
                refine ⟨by simp, ?_⟩
                have : (r.find? fun j => decide (oAt os j = ⟨w.tag, w.key⟩)) = none := by
                  rw [List.find?_eq_none]; intro j hj
                  rw [List.any_eq_false] at ha
                  simpa using ha j hj
                rw [this]; simp [hoo]
              | true =>
                right
                have ha2 := ha
                rw [hany] at ha2
                obtain ⟨hl1, e1⟩ := find_at _ r ha2
                have hfi : (r.findIdx fun i => decide (os[i]? = some ⟨w.tag, w.key⟩)) = r.findIdx fun j => decide (oAt os j = ⟨w.tag, w.key⟩) := by
                  have : ∀ (r : List Nat), (∀ j ∈ r, j < os.length) → (r.findIdx fun i => decide (os[i]? = some ⟨w.tag, w.key⟩)) = r.findIdx fun j => decide (oAt os j = ⟨w.tag, w.key⟩) := by
                    intro r
                    induction r with
                    | nil => intro _; rfl
                    | cons a r ih => intro h; rw [List.findIdx_cons, List.findIdx_cons, key a (h a (by simp)), ih fun j hj => h j (by simp [hj])]
                  exact this r fun j hj => hl j (by simp [hj])
                refine ⟨(r.findIdx fun i => decide (os[i]? = some ⟨w.tag, w.key⟩)) + 1, by simp, by rw [hfi, List.length_cons]; omega, ?_⟩
                rw [e1]
                simp only [hoo, decide_false, Bool.false_eq_true, if_false]
                congr 1
                simp only [hfi, List.getElem_cons_succ]
        · left
          have tk : ∀ (o : Old) f, takesP w o f = false := fun o f => by simp [takesP, k1, k2, k3]
          refine ⟨by simp [k1, k2, k3], ?_⟩
          rw [hfalse true (fun j _ => tk _ _), tk]; simp

theorem erase_nd {l : List Nat} (h : l.Nodup) {p : Nat} (hp : p < l.length) : l.erase l[p] = l.eraseIdx p := by
  induction l generalizing p with
  | nil => simp at hp
  | cons a l ih =>
    cases p with
    | zero => simp
    | succ p =>
      have h2 := List.nodup_cons.1 h
      have hp' : p < l.length := by simpa using hp
      have hne : ¬ a = l[p] := fun e => h2.1 (by rw [e]; exact List.getElem_mem hp')
      simp only [List.getElem_cons_succ, List.eraseIdx_cons_succ]
      rw [List.erase_cons_tail (by simpa using hne), ih h2.2 hp']
/-- In order, each once. -/
def Srt (n : Nat) (l : List Nat) : Prop := l = (List.range n).filter fun k => decide (k ∈ l)
theorem Srt.nodup {n : Nat} {l : List Nat} (h : Srt n l) : l.Nodup := by rw [h]; exact List.nodup_range.filter _
theorem Srt.lt {n : Nat} {l : List Nat} (h : Srt n l) : ∀ i ∈ l, i < n := fun i hi => by rw [h] at hi; simpa using (List.mem_filter.1 hi).1
theorem Srt.nil (n : Nat) : Srt n [] := by simp [Srt]
theorem Srt.all (n : Nat) : Srt n (List.range n) := by
  unfold Srt
  symm
  rw [List.filter_eq_self]; intro a ha; simpa using ha
theorem Srt.erase {n : Nat} {l : List Nat} (h : Srt n l) (j : Nat) : Srt n (l.erase j) := by
  unfold Srt
  rw [h.nodup.erase_eq_filter]
  conv => lhs; rw [h]
  rw [List.filter_filter]
  congr 1
  funext k
  by_cases hk : k = j
  · subst hk; simp
  · simp [hk]
theorem Srt.len {n : Nat} {l : List Nat} (h : Srt n l) : l.length ≤ n := by
  have : l.length = ((List.range n).filter fun k => decide (k ∈ l)).length := by rw [← h]
  rw [this]; exact Nat.le_trans (List.length_filter_le _ _) (by simp)
/-- The walk over all places. -/
def rF (os : List Old) (w : Want) (l : List Nat) : List Nat → Bool → Int
  | [], _ => -1
  | k :: ks, f => if k ∈ l then (if takesP w (oAt os k) f then (k : Int) else rF os w l ks false) else rF os w l ks f
theorem rF_false (os : List Old) (w : Want) (l : List Nat) (ks : List Nat) : rF os w l ks false = match (ks.filter fun k => decide (k ∈ l)).find? fun j => takesP w (oAt os j) false with
    | some j => (j : Int)
    | none => -1 := by
  induction ks with
  | nil => rfl
  | cons k ks ih =>
    unfold rF
    by_cases hk : k ∈ l
    · cases ht : takesP w (oAt os k) false <;> simp [hk, ht, ih]
    · simp [hk, ih]
theorem rF_g (os : List Old) (w : Want) (l : List Nat) (ks : List Nat) : rF os w l ks true = gAt os w (ks.filter fun k => decide (k ∈ l)) := by
  induction ks with
  | nil => rfl
  | cons k ks ih =>
    unfold rF
    by_cases hk : k ∈ l
    · simp only [hk, if_true, decide_true, List.filter_cons_of_pos, gAt, rF_false]
    · simp [hk, ih]
theorem rF_srt (os : List Old) (w : Want) {n : Nat} {l : List Nat} (h : Srt n l) : rF os w l (List.range n) true = gAt os w l := by
  rw [rF_g, ← h]
theorem gAt_mem (os : List Old) (w : Want) (l : List Nat) : gAt os w l = -1 ∨ ∃ j ∈ l, gAt os w l = (j : Nat) := by
  cases l with
  | nil => exact .inl rfl
  | cons i r =>
    unfold gAt
    simp only
    split
    · exact .inr ⟨i, by simp, rfl⟩
    · cases h : r.find? fun j => takesP w (oAt os j) false with
      | none => exact .inl rfl
      | some j => exact .inr ⟨j, by simp [List.mem_of_find?_eq_some h], rfl⟩
theorem mstep_g (os : List Old) (m : MSt) (w : Want) (h : Srt os.length m.left) :
    mstep os m w = (let g := gAt os w m.left; let l := if 0 ≤ g then m.left.erase g.toNat else m.left; if w.kind = 4 then ⟨[], m.take ++ [g], m.kept ++ l⟩ else ⟨l, m.take ++ [g], m.kept⟩) := by
  unfold mstep
  rcases whichG os w m.left h.lt with ⟨e1, e2⟩ | ⟨p, e1, hp, e2⟩
  · rw [e1, e2]; rfl
  · rw [e1, e2]
    have h1 : m.left.eraseIdx p = m.left.erase m.left[p] := (erase_nd h.nodup hp).symm
    simp [List.getD_eq_getElem?_getD, hp, h1]
theorem mstep_srt (os : List Old) (m : MSt) (w : Want) (h : Srt os.length m.left) : Srt os.length (mstep os m w).left := by
  rw [mstep_g os m w h]
  simp only
  split
  · exact Srt.nil _
  · split
    · exact h.erase _
    · exact h
end Go.HL
