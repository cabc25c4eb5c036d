/- What is wanted, back, and whether two want the same. -/
import Derived.Test.YtdbbbhjajkobaabGblk
set_option linter.unusedVariables false
set_option linter.unusedSimpArgs false
set_option maxRecDepth 100000
set_option maxHeartbeats 1000000
namespace Go.HL
open Go.RowKit Go.Proofs

def attI (a : Attr) : Ins := ⟨if a.static then 6 else 5, a.name, a.value⟩
mutual
def backW : Want → List Ins
  | .mk k t ke te a ks => if k = 1 then ⟨if voidN t then 3 else 1, t, ke⟩ :: (a.map attI ++ if voidN t then [] else backL ks ++ [⟨2, ⟨#[]⟩, ⟨#[]⟩⟩])
    else if k = 2 then [⟨4, te, ⟨#[]⟩⟩] else if k = 3 then [⟨8, ⟨#[]⟩, ⟨#[]⟩⟩] else if k = 4 then [⟨7, ⟨#[]⟩, ⟨#[]⟩⟩] else []
def backL : List Want → List Ins
  | [] => []
  | w :: r => backW w ++ backL r
end
theorem backL_append (a b : List Want) : backL (a ++ b) = backL a ++ backL b := by
  induction a with
  | nil => simp [backL]
  | cons w a ih => simp only [List.cons_append, backL, ih, List.append_assoc]
def elemB (w : Want) : List Ins := ⟨if voidN w.tag then 3 else 1, w.tag, w.key⟩ :: (w.attrs.map attI ++ if voidN w.tag then [] else backL w.kids ++ [⟨2, ⟨#[]⟩, ⟨#[]⟩⟩])
theorem backW_eq (w : Want) : backW w = if w.kind = 1 then elemB w else if w.kind = 2 then [⟨4, w.text, ⟨#[]⟩⟩] else if w.kind = 3 then [⟨8, ⟨#[]⟩, ⟨#[]⟩⟩] else if w.kind = 4 then [⟨7, ⟨#[]⟩, ⟨#[]⟩⟩] else [] := by cases w; rfl
theorem attI_insA {y : Ins} (h : isTell y.op = true) : attI (insA y) = y := by
  obtain ⟨o, a, b⟩ := y
  simp only [isTell, Bool.or_eq_true, decide_eq_true_eq] at h
  rcases h with rfl | rfl <;> simp [attI, insA]
theorem attI_all {l : List Ins} (h : ∀ y ∈ l, isTell y.op = true) : (l.map insA).map attI = l := by
  rw [List.map_map]
  conv => rhs; rw [← List.map_id l]
  exact List.map_congr_left fun y hy => attI_insA (h y hy)
theorem ins_eta (x : Ins) (o : Int) (h : x.op = o) (ha : x.a = ⟨#[]⟩) (hb : x.b = ⟨#[]⟩) : x = ⟨o, ⟨#[]⟩, ⟨#[]⟩⟩ := by cases x; simp_all
theorem may_empty {x : Ins} (hm : mayIns x = true) (h : x.op = 2 ∨ x.op = 7 ∨ x.op = 8) : x.a = ⟨#[]⟩ ∧ x.b = ⟨#[]⟩ := by
  unfold mayIns at hm
  rw [if_neg (by omega), if_neg (by omega), if_neg (by omega), if_neg (by omega), if_pos h] at hm
  simpa using hm
theorem blk_back {l : List Ins} {ws : List Want} (h : Blk l ws) : backL ws = l := by
  induction h with
  | nil => rfl
  | text x r ws hm h hr b ih =>
    have hb : x.b = ⟨#[]⟩ := by
      unfold mayIns at hm
      rw [if_neg (by omega), if_neg (by omega), if_pos h] at hm
      simp at hm; exact hm.2
    simp only [backL, ih, backW]
    obtain ⟨o, a, b⟩ := x
    simp only at h hb
    subst h hb
    rfl
  | node x r ws hm h hr b ih =>
    obtain ⟨h1, h2⟩ := may_empty hm (.inr (.inr h))
    simp only [backL, ih, backW]
    rw [ins_eta x 8 h h1 h2]; rfl
  | all x r ws hm h hr b ih =>
    obtain ⟨h1, h2⟩ := may_empty hm (.inr (.inl h))
    simp only [backL, ih, backW]
    rw [ins_eta x 7 h h1 h2]; rfl
  | void x ats r ws hm h ha hr b ih =>
    have hv : voidN x.a = true := by
      unfold mayIns at hm
      rw [if_neg (by omega), if_pos h] at hm
      simp at hm; exact hm.1
    simp only [backL, ih, backW, if_true, hv, attI_all ha, List.append_nil]
    obtain ⟨o, a, b⟩ := x
    simp only at h
    subst h
    rfl
  | elem x ats body c r ks ws hm h ha hb b1 hc hcm hr b2 ih1 ih2 =>
    have hv : voidN x.a = false := by
      unfold mayIns at hm
      rw [if_pos h] at hm
      simp at hm; exact hm.1.2
    obtain ⟨h1, h2⟩ := may_empty hcm (.inl hc)
    rw [ins_eta c 2 hc h1 h2]
    simp only [backL, ih1, ih2, backW, if_true, hv, attI_all ha, Bool.false_eq_true, if_false]
    obtain ⟨o, a, b⟩ := x
    simp only at h
    subst h
    simp
def makesI (x : Ins) : Bool := decide (x.op = 1) || decide (x.op = 3) || decide (x.op = 4)
theorem tell_makes {y : Ins} (h : isTell y.op = true) : makesI y = false := by simp [isTell] at h; simp [makesI]; omega
theorem blk_cnt {l : List Ins} {ws : List Want} (h : Blk l ws) : cntL ws = (l.filter makesI).length := by
  have ht : ∀ ats : List Ins, (∀ y ∈ ats, isTell y.op = true) → ats.filter makesI = [] := fun ats h => List.filter_eq_nil_iff.2 fun y hy => by rw [tell_makes (h y hy)]; simp
  have e0 : cntL [] = 0 := rfl
  induction h with
  | nil => rfl
  | text x r ws hm h hr b ih => simp [cntL, cntW, ih, makesI, h]; omega
  | node x r ws hm h hr b ih => simp [cntL, cntW, ih, makesI, h]
  | all x r ws hm h hr b ih => simp [cntL, cntW, ih, makesI, h]
  | void x ats r ws hm h ha hr b ih =>
    have hx : makesI x = true := by simp [makesI, h]
    rw [List.filter_cons_of_pos hx, List.filter_append, ht ats ha, List.nil_append, List.length_cons, ← ih]
    simp only [cntL, cntW, if_true, e0]; omega
  | elem x ats body c r ks ws hm h ha hb b1 hc hcm hr b2 ih1 ih2 =>
    have hx : makesI x = true := by simp [makesI, h]
    have hcx : ¬ makesI c = true := by simp [makesI, hc]
    rw [List.filter_cons_of_pos hx, List.filter_append, ht ats ha, List.nil_append, List.filter_append, List.filter_cons_of_neg hcx, List.length_cons, List.length_append, ← ih1, ← ih2]
    simp only [cntL, cntW, if_true]; omega

mutual
def eqW : Want → Want → Bool
  | .mk k t ke te a ks, .mk k' t' ke' te' a' ks' => ((((decide (k = k') && decide (t = t')) && decide (ke = ke')) && decide (te = te')) && decide (a = a')) && eqL ks ks'
def eqL : List Want → List Want → Bool
  | [], [] => true
  | w :: r, w' :: r' => eqW w w' && eqL r r'
  | _, _ => false
end
theorem eqW_eq (a b : Want) : eqW a b = (((((decide (a.kind = b.kind) && decide (a.tag = b.tag)) && decide (a.key = b.key)) && decide (a.text = b.text)) && decide (a.attrs = b.attrs)) && eqL a.kids b.kids) := by
  cases a; cases b; rfl
theorem eqL_len : ∀ {a b : List Want}, eqL a b = true → a.length = b.length := by
  intro a
  induction a with
  | nil => intro b h; cases b; rfl; simp [eqL] at h
  | cons w a ih => intro b h; cases b with
    | nil => simp [eqL] at h
    | cons w' b => simp only [eqL, Bool.and_eq_true] at h; simp [ih h.2]
theorem eqL_refl : ∀ (m : Nat) (l : List Want), szL l < m → eqL l l = true := by
  intro m
  induction m with
  | zero => intro l h; omega
  | succ m ih =>
    intro l
    induction l with
    | nil => intro _; rfl
    | cons w r ih2 =>
      intro h
      simp only [szL] at h
      have := szW_eq w
      simp only [eqL, eqW_eq, ih2 (by omega), ih w.kids (by omega)]
      simp
/-! Back. -/
theorem back_sz : ∀ (m : Nat) (l : List Want), szL l < m → (backL l).length ≤ 2 * szL l := by
  intro m
  induction m with
  | zero => intro l h; omega
  | succ m ih =>
    intro l
    induction l with
    | nil => intro _; simp [backL]
    | cons w r ih2 =>
      intro h
      simp only [szL] at h
      have h1 := ih2 (by omega)
      have h2 := szW_eq w
      have h3 := ih w.kids (by omega)
      have h4 : (backW w).length ≤ 2 * szW w := by
        rw [backW_eq]
        unfold elemB
        split
        · split <;> simp <;> omega
        · split
          · simp; omega
          · split
            · simp; omega
            · split
              · simp; omega
              · simp
      simp only [backL, szL, List.length_append]; omega
end Go.HL
