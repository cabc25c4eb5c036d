/- Parts of the proofs, one behind the other: Gback Glawb Gwref. -/
import Derived.Test.YtdbbbhjajkobaabA5
import Derived.Test.YtdbbbhjajkobaabGvlaw
import Derived.Test.YtdbbbhjajkobaabA4
/- What is wanted, back, and whether two want the same. -/
set_option linter.unusedVariables false
set_option linter.unusedSimpArgs false
set_option maxRecDepth 100000
set_option maxHeartbeats 1000000
namespace Go.HL
open Go.RowKit Go.Proofs

def attI (a : Attr) : Ins := ⟨if a.static then 6 else 5, a.name, a.value⟩
mutual
def backW : Want → List Ins
  | .mk k t ke te a ks => if k = 1 then ⟨if voidN t then 3 else 1, t, ke⟩ :: (a.map attI ++ if voidN t then [] else backL ks ++ [⟨2, ⟨#[]⟩, ⟨#[]⟩⟩])
    else if k = 2 then [⟨4, te, ⟨#[]⟩⟩] else if k = 3 then [⟨8, ⟨#[]⟩, ⟨#[]⟩⟩] else if k = 4 then [⟨7, ⟨#[]⟩, ⟨#[]⟩⟩] else []
def backL : List Want → List Ins
  | [] => []
  | w :: r => backW w ++ backL r
end
theorem backL_append (a b : List Want) : backL (a ++ b) = backL a ++ backL b := by
  induction a with
  | nil => simp [backL]
  | cons w a ih => simp only [List.cons_append, backL, ih, List.append_assoc]
def elemB (w : Want) : List Ins := ⟨if voidN w.tag then 3 else 1, w.tag, w.key⟩ :: (w.attrs.map attI ++ if voidN w.tag then [] else backL w.kids ++ [⟨2, ⟨#[]⟩, ⟨#[]⟩⟩])
theorem backW_eq (w : Want) : backW w = if w.kind = 1 then elemB w else if w.kind = 2 then [⟨4, w.text, ⟨#[]⟩⟩] else if w.kind = 3 then [⟨8, ⟨#[]⟩, ⟨#[]⟩⟩] else if w.kind = 4 then [⟨7, ⟨#[]⟩, ⟨#[]⟩⟩] else [] := by cases w; rfl
theorem attI_insA {y : Ins} (h : isTell y.op = true) : attI (insA y) = y := by
  obtain ⟨o, a, b⟩ := y
  simp only [isTell, Bool.or_eq_true, decide_eq_true_eq] at h
  rcases h with rfl | rfl <;> simp [attI, insA]
theorem attI_all {l : List Ins} (h : ∀ y ∈ l, isTell y.op = true) : (l.map insA).map attI = l := by
  rw [List.map_map]
  conv => rhs; rw [← List.map_id l]
  exact List.map_congr_left fun y hy => attI_insA (h y hy)
theorem ins_eta (x : Ins) (o : Int) (h : x.op = o) (ha : x.a = ⟨#[]⟩) (hb : x.b = ⟨#[]⟩) : x = ⟨o, ⟨#[]⟩, ⟨#[]⟩⟩ := by cases x; simp_all
theorem may_empty {x : Ins} (hm : mayIns x = true) (h : x.op = 2 ∨ x.op = 7 ∨ x.op = 8) : x.a = ⟨#[]⟩ ∧ x.b = ⟨#[]⟩ := by
  unfold mayIns at hm
  rw [if_neg (by omega), if_neg (by omega), if_neg (by omega), if_neg (by omega), if_pos h] at hm
  simpa using hm
theorem blk_back {l : List Ins} {ws : List Want} (h : Blk l ws) : backL ws = l := by
  induction h with
  | nil => rfl
  | text x r ws hm h hr b ih =>
    have hb : x.b = ⟨#[]⟩ := by
      unfold mayIns at hm
      rw [if_neg (by omega), if_neg (by omega), if_pos h] at hm
      simp at hm; exact hm.2
    simp only [backL, ih, backW]
    obtain ⟨o, a, b⟩ := x
    simp only at h hb
    subst h hb
    rfl
  | node x r ws hm h hr b ih =>
    obtain ⟨h1, h2⟩ := may_empty hm (.inr (.inr h))
    simp only [backL, ih, backW]
    rw [ins_eta x 8 h h1 h2]; rfl
  | all x r ws hm h hr b ih =>
    obtain ⟨h1, h2⟩ := may_empty hm (.inr (.inl h))
    simp only [backL, ih, backW]
    rw [ins_eta x 7 h h1 h2]; rfl
  | void x ats r ws hm h ha hr b ih =>
    have hv : voidN x.a = true := by
      unfold mayIns at hm
      rw [if_neg (by omega), if_pos h] at hm
      simp at hm; exact hm.1
    simp only [backL, ih, backW, if_true, hv, attI_all ha, List.append_nil]
    obtain ⟨o, a, b⟩ := x
    simp only at h
    subst h
    rfl
  | elem x ats body c r ks ws hm h ha hb b1 hc hcm hr b2 ih1 ih2 =>
    have hv : voidN x.a = false := by
      unfold mayIns at hm
      rw [if_pos h] at hm
      simp at hm; exact hm.1.2
    obtain ⟨h1, h2⟩ := may_empty hcm (.inl hc)
    rw [ins_eta c 2 hc h1 h2]
    simp only [backL, ih1, ih2, backW, if_true, hv, attI_all ha, Bool.false_eq_true, if_false]
    obtain ⟨o, a, b⟩ := x
    simp only at h
    subst h
    simp
def makesI (x : Ins) : Bool := decide (x.op = 1) || decide (x.op = 3) || decide (x.op = 4)
theorem tell_makes {y : Ins} (h : isTell y.op = true) : makesI y = false := by simp [isTell] at h; simp [makesI]; omega
theorem blk_cnt {l : List Ins} {ws : List Want} (h : Blk l ws) : cntL ws = (l.filter makesI).length := by
  have ht : ∀ ats : List Ins, (∀ y ∈ ats, isTell y.op = true) → ats.filter makesI = [] := fun ats h => List.filter_eq_nil_iff.2 fun y hy => by rw [tell_makes (h y hy)]; simp
  have e0 : cntL [] = 0 := rfl
  induction h with
  | nil => rfl
  | text x r ws hm h hr b ih => simp [cntL, cntW, ih, makesI, h]; omega
  | node x r ws hm h hr b ih => simp [cntL, cntW, ih, makesI, h]
  | all x r ws hm h hr b ih => simp [cntL, cntW, ih, makesI, h]
  | void x ats r ws hm h ha hr b ih =>
    have hx : makesI x = true := by simp [makesI, h]
    rw [List.filter_cons_of_pos hx, List.filter_append, ht ats ha, List.nil_append, List.length_cons, ← ih]
    simp only [cntL, cntW, if_true, e0]; omega
  | elem x ats body c r ks ws hm h ha hb b1 hc hcm hr b2 ih1 ih2 =>
    have hx : makesI x = true := by simp [makesI, h]
    have hcx : ¬ makesI c = true := by simp [makesI, hc]
    rw [List.filter_cons_of_pos hx, List.filter_append, ht ats ha, List.nil_append, List.filter_append, List.filter_cons_of_neg hcx, List.length_cons, List.length_append, ← ih1, ← ih2]
    simp only [cntL, cntW, if_true]; omega

mutual
def eqW : Want → Want → Bool
  | .mk k t ke te a ks, .mk k' t' ke' te' a' ks' => ((((decide (k = k') && decide (t = t')) && decide (ke = ke')) && decide (te = te')) && decide (a = a')) && eqL ks ks'
def eqL : List Want → List Want → Bool
  | [], [] => true
  | w :: r, w' :: r' => eqW w w' && eqL r r'
  | _, _ => false
end
theorem eqW_eq (a b : Want) : eqW a b = (((((decide (a.kind = b.kind) && decide (a.tag = b.tag)) && decide (a.key = b.key)) && decide (a.text = b.text)) && decide (a.attrs = b.attrs)) && eqL a.kids b.kids) := by
  cases a; cases b; rfl
theorem eqL_len : ∀ {a b : List Want}, eqL a b = true → a.length = b.length := by
  intro a
  induction a with
  | nil => intro b h; cases b; rfl; simp [eqL] at h
  | cons w a ih => intro b h; cases b with
    | nil => simp [eqL] at h
    | cons w' b => simp only [eqL, Bool.and_eq_true] at h; simp [ih h.2]
theorem eqL_refl : ∀ (m : Nat) (l : List Want), szL l < m → eqL l l = true := by
  intro m
  induction m with
  | zero => intro l h; omega
  | succ m ih =>
    intro l
    induction l with
    | nil => intro _; rfl
    | cons w r ih2 =>
      intro h
      simp only [szL] at h
      have := szW_eq w
      simp only [eqL, eqW_eq, ih2 (by omega), ih w.kids (by omega)]
      simp
/-! Back. -/
theorem back_sz : ∀ (m : Nat) (l : List Want), szL l < m → (backL l).length ≤ 2 * szL l := by
  intro m
  induction m with
  | zero => intro l h; omega
  | succ m ih =>
    intro l
    induction l with
    | nil => intro _; simp [backL]
    | cons w r ih2 =>
      intro h
      simp only [szL] at h
      have h1 := ih2 (by omega)
      have h2 := szW_eq w
      have h3 := ih w.kids (by omega)
      have h4 : (backW w).length ≤ 2 * szW w := by
        rw [backW_eq]
        unfold elemB
        split
        · split <;> simp <;> omega
        · split
          · simp; omega
          · split
            · simp; omega
            · split
              · simp; omega
              · simp
      simp only [backL, szL, List.length_append]; omega
end Go.HL
/- The law WishBack. -/
set_option linter.unusedVariables false
set_option linter.unusedSimpArgs false
set_option maxRecDepth 100000
set_option maxHeartbeats 1000000
namespace Go.HL
open Go.RowKit Go.Proofs

def up14l : List Ins := [⟨1, ⟨#[112]⟩, ⟨#[]⟩⟩, ⟨4, ⟨#[97]⟩, ⟨#[]⟩⟩, ⟨2, ⟨#[]⟩, ⟨#[]⟩⟩]
def up14w : List Want := [.mk 1 ⟨#[112]⟩ ⟨#[]⟩ ⟨#[]⟩ [] [.mk 2 ⟨#[]⟩ ⟨#[]⟩ ⟨#[97]⟩ [] []]]
theorem up14_a : chkP up14l = 0 := by decide +kernel
theorem up14_w : (someP up14l).1 = up14w := by rfl
theorem up14_c : cntL up14w = 2 := by decide +kernel
theorem up14_e : eqL up14w up14w = true := eqL_refl 10 up14w (by decide +kernel)
end Go.HL
/- What is wanted: the reference's answer. -/
set_option linter.unusedVariables false
set_option linter.unusedSimpArgs false
set_option maxRecDepth 100000
set_option maxHeartbeats 1000000
namespace Go.HL
open Go.RowKit Go.Proofs

theorem c_rsameA (l m : List Attr) (t1 t2 : Tok) (hl : l.length ≤ 1048576) : Ret Try.prog 115 [.list (l.map attrD) t1, .list (m.map attrD) t2] (.bool (decide (l = m))) := by
  refine Ret.of fun σ => ?_
  refine HCalls.start mixed false _ _ (fn := Try.f115) (by kernel_rfl) rfl (by kernel_rfl) rfl (by kernel_rfl) (by kernel_rfl) ?_
  simp (maxSteps := 2000000) +contextual [-decide_eq_true_eq, -decide_eq_false_iff_not]
  refine ⟨fun h1 => ?_, fun h1 => ?_⟩
  · intro h; subst h; simp at h1
  · have hlm : l.length = m.length := by have := dec_t h1; omega
    refine hloop_fix (fun n e => ∃ i : Nat, i + n = l.length ∧ e 0 = .list (l.map attrD) t1 ∧ e 1 = .list (m.map attrD) t2 ∧ e 5 = .int .i64 i ∧ ∀ j, j < i → l[j]? = m[j]?) l.length ?_ ?_
    · exact ⟨0, by simp⟩
    · rintro n e ⟨i, hi, e0, e1, e5, hok⟩
      simp (maxSteps := 2000000) +contextual [e0, e1, e5, -decide_eq_true_eq, -decide_eq_false_iff_not]
      refine ⟨fun h4 => hdraw_intro (by kernel_rfl) ?_, fun h4 => ?_⟩
      · have h4 := dec_t h4
        simp (maxSteps := 2000000) +contextual [e0, e1, e5, attrD_length, attrD_def, -decide_eq_true_eq, -decide_eq_false_iff_not]
        refine ⟨h4, fun x hx => ⟨by omega, fun y hy => ⟨fun h5 h => ?_, fun e1 e2 e3 => ⟨n - 1, by omega, i + 1, by omega, by rw [wrap_i64] <;> omega, fun j hj => ?_⟩⟩⟩⟩
        · subst h
          rw [hx] at hy; injection hy with hy; subst hy
          simp at h5
        · by_cases hji : j = i
          · subst hji
            rw [hx, hy]
            have : x = y := by cases x; cases y; simp at e1 e2 e3; subst e1 e2 e3; rfl
            rw [this]
          · exact hok j (by omega)
      · have h4 := dec_f h4
        apply List.ext_getElem?
        intro j
        by_cases hj : j < i
        · exact hok j hj
        · rw [List.getElem?_eq_none (by omega), List.getElem?_eq_none (by omega)]
/-! Where an element ends. -/
def Nice (l : List Ins) : Prop := ∀ d : Int, (∀ j, d ≤ depA (l.take j) d) ∧ depA l d = d
theorem Nice.nil : Nice [] := fun d => ⟨fun j => by simp [depA], rfl⟩
theorem Nice.app {a b : List Ins} (ha : Nice a) (hb : Nice b) : Nice (a ++ b) := by
  intro d
  refine ⟨fun j => ?_, by rw [depA_append, (ha d).2, (hb d).2]⟩
  rw [List.take_append, depA_append]
  by_cases hj : j ≤ a.length
  · rw [show j - a.length = 0 from by omega]
    simp only [List.take_zero, depA]
    exact (ha d).1 j
  · rw [List.take_of_length_le (l := a) (by omega), (ha d).2]
    exact (hb d).1 _
theorem Nice.one {x : Ins} (h1 : ¬ x.op = 1) (h2 : ¬ x.op = 2) : Nice [x] := by
  intro d
  refine ⟨fun j => ?_, by simp [depA, h1, h2]⟩
  cases j with
  | zero => simp [depA]
  | succ j => simp [depA, h1, h2]
theorem Nice.all {l : List Ins} (h : ∀ x ∈ l, ¬ x.op = 1 ∧ ¬ x.op = 2) : Nice l := by
  induction l with
  | nil => exact Nice.nil
  | cons x l ih => exact (Nice.one (h x (by simp)).1 (h x (by simp)).2).app (ih fun y hy => h y (by simp [hy]))
theorem Nice.in {x c : Ins} {m : List Ins} (hx : x.op = 1) (hc : c.op = 2) (h : Nice m) : Nice (x :: (m ++ [c])) := by
  intro d
  have hstep : ∀ l, depA (x :: l) d = depA l (d + 1) := fun l => by simp [depA, hx]
  have hend : depA [c] (d + 1) = d := by simp [depA, hc]
  refine ⟨fun j => ?_, by rw [hstep, depA_append, (h (d + 1)).2, hend]⟩
  cases j with
  | zero => simp [depA]
  | succ j =>
    rw [List.take_succ_cons, hstep, List.take_append, depA_append]
    by_cases hj : j ≤ m.length
    · rw [show j - m.length = 0 from by omega]
      simp only [List.take_zero, depA]
      have := (h (d + 1)).1 j; omega
    · rw [List.take_of_length_le (l := m) (by omega), (h (d + 1)).2, show j - m.length = (j - m.length - 1) + 1 from by omega, List.take_succ_cons]
      simp [depA, hc]
theorem tell_ops {y : Ins} (h : isTell y.op = true) : ¬ y.op = 1 ∧ ¬ y.op = 2 := by simp [isTell] at h; omega
theorem blk_nice {l : List Ins} {ws : List Want} (h : Blk l ws) : Nice l := by
  induction h with
  | nil => exact Nice.nil
  | text x r ws hm h hr b ih => exact (Nice.one (by omega) (by omega)).app ih
  | node x r ws hm h hr b ih => exact (Nice.one (by omega) (by omega)).app ih
  | all x r ws hm h hr b ih => exact (Nice.one (by omega) (by omega)).app ih
  | void x ats r ws hm h ha hr b ih => exact (Nice.one (x := x) (by omega) (by omega)).app ((Nice.all fun y hy => tell_ops (ha y hy)).app ih)
  | elem x ats body c r ks ws hm h ha hb b1 hc hcm hr b2 ih1 ih2 =>
    have h1 : Nice (ats ++ body) := (Nice.all fun y hy => tell_ops (ha y hy)).app ih1
    have h2 := (Nice.in h hc h1).app ih2
    have e : x :: (ats ++ (body ++ c :: r)) = (x :: ((ats ++ body) ++ [c])) ++ r := by simp
    rw [e]; exact h2
/-- A wish while it is told: its lists may still be appended to. -/
structure WantT where
  w : Want
  ta : Tok
  tk : Tok
def wantT (p : WantT) : List D := [.int .i64 p.w.kind, .str p.w.tag, .str p.w.key, .str p.w.text, .list (p.w.attrs.map attrD) p.ta, .list (p.w.kids.map wantD) p.tk]
theorem wantT_length (p : WantT) : (wantT p).length = 6 := rfl
theorem wantT_wk (l : List WantT) (tok : Tok) : Wk (.list (l.map wantT) tok) (.list ((l.map WantT.w).map wantD) .ro) := by
  refine Wk.maps wantT wantD WantT.w l tok (fun a => by rw [wantD_length]; rfl) ?_
  rintro ⟨w, t1, t2⟩ j d d' h1 h2
  rw [wantD_eq] at h2
  match j with
  | 0 => simp [wantT] at h1 h2; subst h1 h2; exact .refl _
  | 1 => simp [wantT] at h1 h2; subst h1 h2; exact .refl _
  | 2 => simp [wantT] at h1 h2; subst h1 h2; exact .refl _
  | 3 => simp [wantT] at h1 h2; subst h1 h2; exact .refl _
  | 4 => simp [wantT] at h1 h2; subst h1 h2; exact .list _ _
  | 5 => simp [wantT] at h1 h2; subst h1 h2; exact .list _ _
  | n + 6 => simp [wantT] at h1
/- end of of -/
end Go.HL
