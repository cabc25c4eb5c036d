/- HL, part V: what is asked behind may be asked for less; a stop between two parts of the code. -/
import Derived.Test.YtdbbbhjajkobaabHLU
set_option linter.unusedVariables false
set_option linter.unusedSimpArgs false
namespace Go.HL
open Go.RowKit
variable {P : Program} {lm : Bool}

theorem guardD_mono {all : List Oper} {g : Option (Nat × Bool)} {e : Env} {a b a' b' : Prop} (ha : a → a') (hb : b → b') (h : guardD all g e a b) : guardD all g e a' b' := by
  unfold guardD at h ⊢
  split at h
  · exact ha h
  · rename_i j want
    split at h
    · exact hb h
    · rename_i t _
      split at h
      · cases want with
        | true => exact ⟨fun e => ha (h.1 e), fun e => hb (h.2 e)⟩
        | false => exact ⟨fun e => ha (h.1 e), fun e => hb (h.2 e)⟩
      · exact hb h
      · exact h.elim
theorem hops_mono {all : List Oper} {N N' : Env → Store → Prop} (hN : ∀ e s, N e s → N' e s) : ∀ (l : List Oper) (e : Env) (s : Store), hops P lm all l e s N → hops P lm all l e s N' := by
  intro l
  induction l with
  | nil => intro e s h; exact hN e s h
  | cons o r ih => intro e s h; exact guardD_mono (hop_mono fun d s' => ih _ _) (ih _ _) h
theorem hAny_mono {ops : Array Oper} {N N' : Env → Store → Prop} (hN : ∀ e s, N e s → N' e s) : ∀ (n : Nat) (l : Array Bool) (e : Env) (s : Store), hAny P lm ops n l e s N → hAny P lm ops n l e s N' := by
  intro n
  induction n with
  | zero => intro l e s h; exact ⟨h.1, hN e s h.2⟩
  | succ n ih =>
    intro l e s h
    refine ⟨fun hr => hN _ _ (h.1 hr), fun i hi => ?_⟩
    have := h.2 i hi
    split at this
    · exact ih _ _ _ this
    · exact guardD_mono (hop_mono fun d s' => ih _ _ _) (ih _ _ _) this
theorem hseq_mono {σ0 : Store} {all : List Oper} {N N' : Env → Store → Prop} (hN : ∀ e s, N e s → N' e s) : ∀ (l : List Oper) (e : Env) (s : Store), hseq P lm σ0 all l e s N → hseq P lm σ0 all l e s N' := by
  intro l
  induction l with
  | nil => intro e s h; exact hN e s h
  | cons o r ih => intro e s h; exact guardD_mono (stepD_mono fun d s' => ih _ _) (ih _ _) h
theorem hdraw_mono {ops : Array Oper} {N N' : Env → Store → Prop} (hN : ∀ e s, N e s → N' e s) {e : Env} {s : Store} (h : hdraw P lm ops e s N) : hdraw P lm ops e s N' := by
  rcases h with h | ⟨h1, c, σ0, h2, h3, h4⟩
  · exact .inl (hAny_mono hN _ _ _ _ h)
  · exact .inr ⟨h1, c, σ0, h2, h3, hseq_mono (fun e s ⟨σ1, h5, h6⟩ => ⟨σ1, h5, hseq_mono hN _ _ _ h6⟩) _ _ _ h4⟩
structure KLe (K K' : Kont) : Prop where
  n : ∀ e s, K.n e s → K'.n e s
  r : ∀ e s, K.r e s → K'.r e s
  x : ∀ i e s, K.x i e s → K'.x i e s
theorem hwp_mono : ∀ (c : Code) {K K' : Kont} {e : Env} {s : Store}, KLe K K' → hwp P lm c K e s → hwp P lm c K' e s := by
  intro c
  induction c with
  | skip => intro K K' e s hk h; exact hk.n _ _ h
  | region i ops d =>
    intro K K' e s hk h
    cases d with
    | true => exact hdraw_mono hk.n h
    | false => exact hops_mono hk.n _ _ _ h
  | seq a b iha ihb =>
    intro K K' e s hk h
    have h : hwp P lm a { K with n := fun e s => hwp P lm b K e s } e s := h
    exact iha (K := { K with n := fun e s => hwp P lm b K e s }) (K' := { K' with n := fun e s => hwp P lm b K' e s }) ⟨fun e s => ihb hk, hk.r, hk.x⟩ h
  | cond c a b iha ihb =>
    intro K K' e s hk h
    unfold hwp at h ⊢
    unfold hcond at h ⊢
    split at h
    · exact ⟨fun e => iha hk (h.1 e), fun e => ihb hk (h.2 e)⟩
    · exact h.elim
  | block i c ih =>
    intro K K' e s hk h
    have h : hwp P lm c { K with x := fun j e s => if j = i then K.n e s else K.x j e s } e s := h
    refine ih (K := { K with x := fun j e s => if j = i then K.n e s else K.x j e s }) (K' := { K' with x := fun j e s => if j = i then K'.n e s else K'.x j e s }) ⟨hk.n, hk.r, fun j e s h => ?_⟩ h
    simp only at h ⊢
    split at h
    · rename_i hj; rw [if_pos hj]; exact hk.n _ _ h
    · rename_i hj; rw [if_neg hj]; exact hk.x _ _ _ h
  | loop c ih =>
    intro K K' e s hk h
    obtain ⟨I, h0, h1⟩ := h
    exact ⟨I, h0, fun n e s hI => ih (K := { K with n := fun e' s' => ∃ m s'', m < n ∧ SLe s'' s' ∧ I m e' s'' }) (K' := { K' with n := fun e' s' => ∃ m s'', m < n ∧ SLe s'' s' ∧ I m e' s'' }) ⟨fun e s h => h, hk.r, hk.x⟩ (h1 n e s hI)⟩
  | exit i => intro K K' e s hk h; exact hk.x _ _ _ h
  | ret => intro K K' e s hk h; exact hk.r _ _ h
  | _ => intro K K' e s hk h; exact h.elim
/-- Behind a loop: what is asked there is told apart. -/
theorem hloop_cut (i0 : Nat) (J : Env → Store → Prop) {c : Code} {K : Kont} {e : Env} {s : Store} (h1 : hloop (@bx _ ⟨hwp P lm c⟩) (@bx _ ⟨{ K with x := fun j e s => if j = i0 then J e s else K.x j e s }⟩) e s)
    (h2 : ∀ e s, J e s → (@bx _ ⟨K⟩ : Kont).x i0 e s) : hloop (@bx _ ⟨hwp P lm c⟩) (@bx _ ⟨K⟩) e s := by
  obtain ⟨I, h3, h4⟩ := h1
  refine ⟨I, h3, fun n e s hI => ?_⟩
  have h5 : hwp P lm c { K with n := fun e' s' => ∃ m s'', m < n ∧ SLe s'' s' ∧ I m e' s'', x := fun j e s => if j = i0 then J e s else K.x j e s } e s := h4 n e s hI
  show hwp P lm c { K with n := fun e' s' => ∃ m s'', m < n ∧ SLe s'' s' ∧ I m e' s'' } e s
  refine hwp_mono c (K := { K with n := fun e' s' => ∃ m s'', m < n ∧ SLe s'' s' ∧ I m e' s'', x := fun j e s => if j = i0 then J e s else K.x j e s }) ⟨fun e s h => h, fun e s h => h, fun i e s h => ?_⟩ h5
  have h6 : if i = i0 then J e s else K.x i e s := h
  by_cases hi : i = i0
  · rw [if_pos hi] at h6; subst hi; exact h2 e s h6
  · rw [if_neg hi] at h6; exact h6
/-- Behind a choice. -/
theorem hcond_cut (J : Env → Store → Prop) {d : D} {a b : Code} {K : Kont} {e : Env} {s : Store} (h1 : hcond d (@bx _ ⟨hwp P lm a (@bx _ ⟨{ K with n := J }⟩) e s⟩) (@bx _ ⟨hwp P lm b (@bx _ ⟨{ K with n := J }⟩) e s⟩))
    (h2 : ∀ e s, J e s → (@bx _ ⟨K⟩ : Kont).n e s) : hcond d (@bx _ ⟨hwp P lm a (@bx _ ⟨K⟩) e s⟩) (@bx _ ⟨hwp P lm b (@bx _ ⟨K⟩) e s⟩) := by
  have key : ∀ c, hwp P lm c (@bx _ ⟨{ K with n := J }⟩) e s → hwp P lm c (@bx _ ⟨K⟩) e s := fun c => hwp_mono c (K := { K with n := J }) (K' := K) ⟨h2, fun e s h => h, fun i e s h => h⟩
  unfold hcond at h1 ⊢
  split at h1
  · exact ⟨fun e => key _ (h1.1 e), fun e => key _ (h1.2 e)⟩
  · exact h1.elim
/-- What is new may be turned. -/
theorem But.low {σ s s' : Store} {b : Nat} (hB : But (some b) s s') (h : SLe σ s) (hb : σ b = none) : SLe σ s' := fun x o e => hB x o (fun hx => by injection hx with hx; subst hx; rw [hb] at e; cases e) (h x o e)
theorem But.lowO {σ s s' : Store} {r : Option Nat} (hB : But r s s') (h : SLe σ s) (hb : ∀ b, r = some b → σ b = none) : SLe σ s' := fun x o e => hB x o (fun hx => by rw [hb x hx] at e; cases e) (h x o e)
/-- What is handed over, told with less. -/
theorem HCalls.preW {σ : Store} {f : FuncId} {ds ds' : List D} {Q : D → Store → Prop} (hl : ds.length = ds'.length) (h : ∀ (i : Nat) (d d' : D), ds[i]? = some d → ds'[i]? = some d' → Wk d d') (hc : HCalls P f ds' σ Q) : HCalls P f ds σ Q :=
  fun w0 M w vs hs hn hd => hc w0 M w vs hs (hn.trans hl) fun i d' hi => by
    have hlt : i < ds.length := by have := (List.getElem?_eq_some_iff.1 hi).1; omega
    exact (h i _ d' (List.getElem?_eq_getElem hlt) hi).goes (hd i _ (List.getElem?_eq_getElem hlt))
theorem HCalls.pre1 {σ : Store} {f : FuncId} {a a' : D} {Q : D → Store → Prop} (h1 : Wk a a') (hc : HCalls P f [a'] σ Q) : HCalls P f [a] σ Q :=
  HCalls.preW (ds' := [a']) rfl (fun i d d' hd hd' => by
    match i with
    | 0 => simp at hd hd'; subst hd hd'; exact h1
    | n + 1 => simp at hd) hc
theorem HCalls.pre2 {σ : Store} {f : FuncId} {a b a' b' : D} {Q : D → Store → Prop} (h1 : Wk a a') (h2 : Wk b b') (hc : HCalls P f [a', b'] σ Q) : HCalls P f [a, b] σ Q :=
  HCalls.preW (ds' := [a', b']) rfl (fun i d d' hd hd' => by
    match i with
    | 0 => simp at hd hd'; subst hd hd'; exact h1
    | 1 => simp at hd hd'; subst hd hd'; exact h2
    | n + 2 => simp at hd) hc
/-- One block alone. -/
def Store.one (b : Nat) (o : HObj) : Store := fun x => if x = b then some o else none
@[simp] theorem Store.one_at (b : Nat) (o : HObj) : Store.one b o b = some o := by simp [Store.one]
theorem Store.one_le {b : Nat} {o : HObj} {s : Store} (h : s b = some o) : SLe (Store.one b o) s := fun x o' e => by
  unfold Store.one at e
  split at e
  · rename_i hx; injection e with e; subst e hx; exact h
  · cases e
theorem Store.one_put {b c : Nat} {o o' : HObj} {s : Store} (h : s b = some o) (hne : b ≠ c) : SLe (Store.one b o) (s.set c o') := Store.one_le (by rw [Store.set_ne _ _ _ _ hne]; exact h)
end Go.HL
