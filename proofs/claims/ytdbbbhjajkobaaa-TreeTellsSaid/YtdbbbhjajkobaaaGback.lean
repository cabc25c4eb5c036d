/- What is wanted, back, and whether two want the same. -/
import Derived.Test.YtdbbbhjajkobaaaGblk
set_option linter.unusedVariables false
set_option linter.unusedSimpArgs false
set_option maxRecDepth 100000
set_option maxHeartbeats 1000000
namespace Go.HL
open Go.RowKit Go.Proofs

def attI (a : Attr) : Ins := ⟨if a.static then 6 else 5, a.name, a.value⟩
mutual
def backW : Want → List Ins
  | .mk k t ke te a ks => if k = 1 then ⟨if voidN t then 3 else 1, t, ke⟩ :: (a.map attI ++ if voidN t then [] else backL ks ++ [⟨2, ⟨#[]⟩, ⟨#[]⟩⟩])
    else if k = 2 then [⟨4, te, ⟨#[]⟩⟩] else if k = 3 then [⟨8, ⟨#[]⟩, ⟨#[]⟩⟩] else if k = 4 then [⟨7, ⟨#[]⟩, ⟨#[]⟩⟩] else []
def backL : List Want → List Ins
  | [] => []
  | w :: r => backW w ++ backL r
end
theorem backL_append (a b : List Want) : backL (a ++ b) = backL a ++ backL b := by
  induction a with
  | nil => simp [backL]
  | cons w a ih => simp only [List.cons_append, backL, ih, List.append_assoc]
def elemB (w : Want) : List Ins := ⟨if voidN w.tag then 3 else 1, w.tag, w.key⟩ :: (w.attrs.map attI ++ if voidN w.tag then [] else backL w.kids ++ [⟨2, ⟨#[]⟩, ⟨#[]⟩⟩])
theorem backW_eq (w : Want) : backW w = if w.kind = 1 then elemB w else if w.kind = 2 then [⟨4, w.text, ⟨#[]⟩⟩] else if w.kind = 3 then [⟨8, ⟨#[]⟩, ⟨#[]⟩⟩] else if w.kind = 4 then [⟨7, ⟨#[]⟩, ⟨#[]⟩⟩] else [] := by cases w; rfl
theorem attI_insA {y : Ins} (h : isTell y.op = true) : attI (insA y) = y := by
  obtain ⟨o, a, b⟩ := y
  simp only [isTell, Bool.or_eq_true, decide_eq_true_eq] at h
  rcases h with rfl | rfl <;> simp [attI, insA]
theorem attI_all {l : List Ins} (h : ∀ y ∈ l, isTell y.op = true) : (l.map insA).map attI = l := by
  rw [List.map_map]
  conv => rhs; rw [← List.map_id l]
  exact List.map_congr_left fun y hy => attI_insA (h y hy)
theorem ins_eta (x : Ins) (o : Int) (h : x.op = o) (ha : x.a = ⟨#[]⟩) (hb : x.b = ⟨#[]⟩) : x = ⟨o, ⟨#[]⟩, ⟨#[]⟩⟩ := by cases x; simp_all
theorem may_empty {x : Ins} (hm : mayIns x = true) (h : x.op = 2 ∨ x.op = 7 ∨ x.op = 8) : x.a = ⟨#[]⟩ ∧ x.b = ⟨#[]⟩ := by
  unfold mayIns at hm
  rw [if_neg (by omega), if_neg (by omega), if_neg (by omega), if_neg (by omega), if_pos h] at hm
  simpa using hm
theorem blk_back {l : List Ins} {ws : List Want} (h : Blk l ws) : backL ws = l := by
  induction h with
  | nil => rfl
  | text x r ws hm h hr b ih =>
    have hb : x.b = ⟨#[]⟩ := by
      unfold mayIns at hm
      rw [if_neg (by omega), if_neg (by omega), if_pos h] at hm
      simp at hm; exact hm.2
    simp only [backL, ih, backW]
    obtain ⟨o, a, b⟩ := x
    simp only at h hb
    subst h hb
    rfl
  | node x r ws hm h hr b ih =>
    obtain ⟨h1, h2⟩ := may_empty hm (.inr (.inr h))
    simp only [backL, ih, backW]
    rw [ins_eta x 8 h h1 h2]; rfl
  | all x r ws hm h hr b ih =>
    obtain ⟨h1, h2⟩ := may_empty hm (.inr (.inl h))
    simp only [backL, ih, backW]
    rw [ins_eta x 7 h h1 h2]; rfl
  | void x ats r ws hm h ha hr b ih =>
    have hv : voidN x.a = true := by
      unfold mayIns at hm
      rw [if_neg (by omega), if_pos h] at hm
      simp at hm; exact hm.1
    simp only [backL, ih, backW, if_true, hv, attI_all ha, List.append_nil]
    obtain ⟨o, a, b⟩ := x
    simp only at h
    subst h
    rfl
  | elem x ats body c r ks ws hm h ha hb b1 hc hcm hr b2 ih1 ih2 =>
    have hv : voidN x.a = false := by
      unfold mayIns at hm
      rw [if_pos h] at hm
      simp at hm; exact hm.1.2
    obtain ⟨h1, h2⟩ := may_empty hcm (.inl hc)
    rw [ins_eta c 2 hc h1 h2]
    simp only [backL, ih1, ih2, backW, if_true, hv, attI_all ha, Bool.false_eq_true, if_false]
    obtain ⟨o, a, b⟩ := x
    simp only at h
    subst h
    simp
def makesI (x : Ins) : Bool := decide (x.op = 1) || decide (x.op = 3) || decide (x.op = 4)
theorem tell_makes {y : Ins} (h : isTell y.op = true) : makesI y = false := by simp [isTell] at h; simp [makesI]; omega
theorem blk_cnt {l : List Ins} {ws : List Want} (h : Blk l ws) : cntL ws = (l.filter makesI).length := by
  have ht : ∀ ats : List Ins, (∀ y ∈ ats, isTell y.op = true) → ats.filter makesI = [] := fun ats h => List.filter_eq_nil_iff.2 fun y hy => by rw [tell_makes (h y hy)]; simp
  have e0 : cntL [] = 0 := rfl
  induction h with
  | nil => rfl
  | text x r ws hm h hr b ih => simp [cntL, cntW, ih, makesI, h]; omega
  | node x r ws hm h hr b ih => simp [cntL, cntW, ih, makesI, h]
  | all x r ws hm h hr b ih => simp [cntL, cntW, ih, makesI, h]
  | void x ats r ws hm h ha hr b ih =>
    have hx : makesI x = true := by simp [makesI, h]
    rw [List.filter_cons_of_pos hx, List.filter_append, ht ats ha, List.nil_append, List.length_cons, ← ih]
    simp only [cntL, cntW, if_true, e0]; omega
  | elem x ats body c r ks ws hm h ha hb b1 hc hcm hr b2 ih1 ih2 =>
    have hx : makesI x = true := by simp [makesI, h]
    have hcx : ¬ makesI c = true := by simp [makesI, hc]
    rw [List.filter_cons_of_pos hx, List.filter_append, ht ats ha, List.nil_append, List.filter_append, List.filter_cons_of_neg hcx, List.length_cons, List.length_append, ← ih1, ← ih2]
    simp only [cntL, cntW, if_true]; omega

mutual
def eqW : Want → Want → Bool
  | .mk k t ke te a ks, .mk k' t' ke' te' a' ks' => ((((decide (k = k') && decide (t = t')) && decide (ke = ke')) && decide (te = te')) && decide (a = a')) && eqL ks ks'
def eqL : List Want → List Want → Bool
  | [], [] => true
  | w :: r, w' :: r' => eqW w w' && eqL r r'
  | _, _ => false
end
theorem eqW_eq (a b : Want) : eqW a b = (((((decide (a.kind = b.kind) && decide (a.tag = b.tag)) && decide (a.key = b.key)) && decide (a.text = b.text)) && decide (a.attrs = b.attrs)) && eqL a.kids b.kids) := by
  cases a; cases b; rfl
theorem eqL_len : ∀ {a b : List Want}, eqL a b = true → a.length = b.length := by
  intro a
  induction a with
  | nil => intro b h; cases b; rfl; simp [eqL] at h
  | cons w a ih => intro b h; cases b with
    | nil => simp [eqL] at h
    | cons w' b => simp only [eqL, Bool.and_eq_true] at h; simp [ih h.2]
theorem eqL_refl : ∀ (m : Nat) (l : List Want), szL l < m → eqL l l = true := by
  intro m
  induction m with
  | zero => intro l h; omega
  | succ m ih =>
    intro l
    induction l with
    | nil => intro _; rfl
    | cons w r ih2 =>
      intro h
      simp only [szL] at h
      have := szW_eq w
      simp only [eqL, eqW_eq, ih2 (by omega), ih w.kids (by omega)]
      simp
theorem c_sameW_of (a b : Want) (h : a.attrs.length ≤ 1048576) (sub : ∀ t1 t2, Ret Try.prog 51 [.list (a.kids.map wantD) t1, .list (b.kids.map wantD) t2] (.bool (eqL a.kids b.kids))) :
    Ret Try.prog 87 [.agg (wantD a), .agg (wantD b)] (.bool (eqW a b)) := by
  refine Ret.of fun σ => ?_
  rw [wantD_eq a, wantD_eq b, eqW_eq]
  refine HCalls.start mixed false _ _ (fn := Try.f87) (by kernel_rfl) rfl (by kernel_rfl) rfl (by kernel_rfl) (by kernel_rfl) ?_
  repeat' (first | (simp (maxSteps := 2000000) +contextual [*, -decide_eq_true_eq, -decide_eq_false_iff_not]) | (refine c_sameA _ _ _ _ h _ _ ?_) | (refine sub _ _ _ _ ?_) | (intro _) | (refine And.intro ?_ ?_))

theorem c_eqfW (A B : List Want) (t1 t2 : Tok) (hl : A.length ≤ 1048576) (one : ∀ a ∈ A, ∀ b, Ret Try.prog 87 [.agg (wantD a), .agg (wantD b)] (.bool (eqW a b))) :
    Ret Try.prog 86 [.list (A.map wantD) t1, .list (B.map wantD) t2, .lit (.func (.func 87) #[] #[])] (.bool (eqL A B)) := by
  refine Ret.of fun σ => ?_
  refine HCalls.start mixed false _ _ (fn := Try.f86) (by kernel_rfl) rfl (by kernel_rfl) rfl (by kernel_rfl) (by kernel_rfl) ?_
  by_cases hlen : A.length = B.length
  · have hlen' : (A.length : Int) = B.length := by omega
    simp (maxSteps := 2000000) +contextual [hlen', -decide_eq_true_eq, -decide_eq_false_iff_not]
    refine hloop_intro (fun n e s => ∃ i : Nat, i + n = A.length ∧ e 1 = .list (B.map wantD) t2 ∧ e 2 = .lit (.func (.func 87) #[] #[]) ∧ e 15 = .list (A.map wantD) t1 ∧ e 16 = .int .i64 B.length ∧ e 17 = .int .i64 i ∧ SLe σ s ∧ eqL A B = eqL (A.drop i) (B.drop i)) A.length ?_ ?_
    · exact ⟨0, by simp⟩
    · rintro n e s ⟨i, hi, e1, e2, e15, e16, e17, hs, heq⟩
      by_cases h4 : i < A.length
      · have h4b : i < B.length := by omega
        obtain ⟨a, ha, ha2⟩ : ∃ a, A[i]? = some a ∧ A[i] = a := ⟨_, List.getElem?_eq_getElem h4, rfl⟩
        obtain ⟨b, hb, hb2⟩ : ∃ b, B[i]? = some b ∧ B[i] = b := ⟨_, List.getElem?_eq_getElem h4b, rfl⟩
        rw [List.drop_eq_getElem_cons h4, List.drop_eq_getElem_cons h4b, ha2, hb2] at heq
        simp only [eqL] at heq
        simp (maxSteps := 2000000) +contextual [e1, e2, e15, e16, e17, h4, h4b, ha, ha2, hb, hb2, wantD_length, -decide_eq_true_eq, -decide_eq_false_iff_not]
        intro b1 hb1 b2 n2 hb2'
        have hS : SLe s ((s.set b1 (.cells (wantD a))).set b2 (.cells (wantD b))) := by (intro xx oo hh; simp only [Store.set] at hh ⊢; grind)
        have n2' : ¬ b1 = b2 := fun e => n2 e.symm
        refine one a (List.mem_of_getElem? ha) b _ _ ?_
        cases hv : eqW a b with
        | true =>
          rw [hv, Bool.true_and] at heq
          simp (maxSteps := 2000000) +contextual [e1, e2, e15, e16, e17, -decide_eq_true_eq, -decide_eq_false_iff_not]
          exact ⟨n - 1, by omega, s, hS, i + 1, by omega, by rw [wrap_i64] <;> omega, hs, heq⟩
        | false =>
          rw [hv, Bool.false_and] at heq
          simp (maxSteps := 2000000) +contextual [e1, e2, e15, e16, e17, heq, -decide_eq_true_eq, -decide_eq_false_iff_not]
          exact hs.trans hS
      · rw [List.drop_eq_nil_of_le (by omega), List.drop_eq_nil_of_le (by omega)] at heq
        have heq : eqL A B = true := heq
        have h4' : ¬ i < B.length := by omega
        simp (maxSteps := 2000000) +contextual [e1, e2, e15, e16, e17, h4, h4', heq, -decide_eq_true_eq, -decide_eq_false_iff_not]
        exact hs
  · have hlen' : ¬ (A.length : Int) = B.length := by omega
    have : eqL A B = false := by
      cases h : eqL A B with
      | false => rfl
      | true => exact absurd (eqL_len h) hlen
    simp (maxSteps := 2000000) +contextual [hlen', this, -decide_eq_true_eq, -decide_eq_false_iff_not]
theorem c_sameL_of (A B : List Want) (t1 t2 : Tok) (hl : A.length ≤ 1048576) (one : ∀ a ∈ A, ∀ b, Ret Try.prog 87 [.agg (wantD a), .agg (wantD b)] (.bool (eqW a b))) :
    Ret Try.prog 51 [.list (A.map wantD) t1, .list (B.map wantD) t2] (.bool (eqL A B)) := by
  refine Ret.of fun σ => ?_
  refine HCalls.start mixed false _ _ (fn := Try.f51) (by kernel_rfl) rfl (by kernel_rfl) rfl (by kernel_rfl) (by kernel_rfl) ?_
  simp (maxSteps := 2000000) +contextual [-decide_eq_true_eq, -decide_eq_false_iff_not]
  refine c_eqfW A B t1 t2 hl one _ _ ?_
  simp (maxSteps := 2000000) +contextual [-decide_eq_true_eq, -decide_eq_false_iff_not]
theorem c_sameL : ∀ (m : Nat) (A B : List Want) (t1 t2 : Tok), szL A < m → szL A ≤ 1048576 → Ret Try.prog 51 [.list (A.map wantD) t1, .list (B.map wantD) t2] (.bool (eqL A B)) := by
  intro m
  induction m with
  | zero => intro A B t1 t2 h; omega
  | succ m ih =>
    intro A B t1 t2 hm hsz
    refine c_sameL_of A B t1 t2 (by have := sz_len A; omega) fun a ha b => ?_
    have h1 := sz_mem ha
    have h2 := szW_eq a
    exact c_sameW_of a b (by omega) fun t3 t4 => ih a.kids b.kids t3 t4 (by omega) (by omega)
/-! Back. -/
theorem back_sz : ∀ (m : Nat) (l : List Want), szL l < m → (backL l).length ≤ 2 * szL l := by
  intro m
  induction m with
  | zero => intro l h; omega
  | succ m ih =>
    intro l
    induction l with
    | nil => intro _; simp [backL]
    | cons w r ih2 =>
      intro h
      simp only [szL] at h
      have h1 := ih2 (by omega)
      have h2 := szW_eq w
      have h3 := ih w.kids (by omega)
      have h4 : (backW w).length ≤ 2 * szW w := by
        rw [backW_eq]
        unfold elemB
        split
        · split <;> simp <;> omega
        · split
          · simp; omega
          · split
            · simp; omega
            · split
              · simp; omega
              · simp
      simp only [backL, szL, List.length_append]; omega
theorem c_element_of (w : Want) (hsz : szW w ≤ 1048576) (sub : ∀ t, Ret Try.prog 57 [.list (w.kids.map wantD) t] (.list ((backL w.kids).map insD) .ro)) :
    Ret Try.prog 91 [.agg (wantD w)] (.list ((elemB w).map insD) .ro) := by
  refine RetL.ro (RetL.of fun σ => ?_)
  have h2 := szW_eq w
  have h3 := back_sz (szL w.kids + 1) w.kids (by omega)
  rw [wantD_eq]
  refine HCalls.start mixed false _ _ (fn := Try.f91) (by kernel_rfl) rfl (by kernel_rfl) rfl (by kernel_rfl) (by kernel_rfl) ?_
  simp (maxSteps := 2000000) +contextual [-decide_eq_true_eq, -decide_eq_false_iff_not]
  intro b hb b3 n3 hb3
  refine c_void _ _ _ ?_
  obtain ⟨o, ho⟩ : ∃ o : Int, o = if voidN w.tag then 3 else 1 := ⟨_, rfl⟩
  have hbb : ¬ b = b3 := fun e => n3 e.symm
  have hE : elemB w = ⟨o, w.tag, w.key⟩ :: (w.attrs.map attI ++ if voidN w.tag then [] else backL w.kids ++ [⟨2, ⟨#[]⟩, ⟨#[]⟩⟩]) := by rw [ho]; rfl
  cases hv : voidN w.tag <;> rw [hv] at ho hE
  all_goals
    simp (maxSteps := 2000000) +contextual [hb, hb3, n3, -decide_eq_true_eq, -decide_eq_false_iff_not]
    refine hloop_intro (fun n e s => ∃ (i : Nat) (tok : Tok) (out : List Ins) (s3 : Store), i + n = w.attrs.length ∧ e 1 = .ptr b 0 ∧ e 3 = .ptr b3 0 ∧ e 4 = .list (out.map insD) tok ∧ e 20 = .list (w.attrs.map attrD) .ro ∧ e 21 = .int .i64 w.attrs.length ∧ e 22 = .int .i64 i ∧
      s b = some (.cells [.int .i64 w.kind, .str w.tag, .str w.key, .str w.text, .list (w.attrs.map attrD) .ro, .list (w.kids.map wantD) .ro]) ∧ s b3 = some (.cells [.int .i64 o, .str w.tag, .str w.key]) ∧
      Gr 3 σ (out.map insD) tok s3 ∧ SLe s3 s ∧ Sm (⟨o, w.tag, w.key⟩ :: (w.attrs.take i).map attI) out) w.attrs.length ?_ ?_
    · refine ⟨0, .full, [⟨o, w.tag, w.key⟩], σ, by simp, ?_⟩
      rw [ho]
      simp (maxSteps := 2000000) +contextual [hbb, n3, insD_def, -decide_eq_true_eq, -decide_eq_false_iff_not]
      exact ⟨.full _, by (intro xx oo hh; simp only [Store.set] at hh ⊢; grind), rfl⟩
    · rintro n e s ⟨i, tok, out, s3, hi, e1, e3, e4, e20, e21, e22, hsb, hsb3, hg, hs3, hout⟩
      have hout : (⟨o, w.tag, w.key⟩ : Ins) :: (w.attrs.take i).map attI = out := hout
      have hol : out.length = i + 1 := by rw [← hout]; simp; omega
      by_cases h4 : i < w.attrs.length
      · obtain ⟨a, ha, ha2⟩ : ∃ a, w.attrs[i]? = some a ∧ w.attrs[i] = a := ⟨_, List.getElem?_eq_getElem h4, rfl⟩
        have hn : (w.attrs.take (i + 1)).map attI = (w.attrs.take i).map attI ++ [attI a] := by rw [take_next ha]; simp
        cases hst : a.static
        all_goals
          simp (maxSteps := 2000000) +contextual [e1, e3, e4, e20, e21, e22, h4, ha, ha2, attrD_length, attrD_def, insD_length, -decide_eq_true_eq, -decide_eq_false_iff_not]
          intro b6 hb6
          have ne6 : b ≠ b6 := fun e => by subst e; rw [hsb] at hb6; cases hb6
          have ne63 : b3 ≠ b6 := fun e => by subst e; rw [hsb3] at hb6; cases hb6
          simp (maxSteps := 2000000) +contextual [e1, e3, e4, e20, e21, e22, hst, insD_length, -decide_eq_true_eq, -decide_eq_false_iff_not]
          have hs6 : SLe s3 (s.set b6 (.cells [.str a.name, .str a.value, .bool a.static])) := hs3.trans ((SLe.refl s).set hb6 _)
          have k1 : (s.set b6 (.cells [.str a.name, .str a.value, .bool a.static])) b = s b := by rw [Store.set_ne _ _ _ _ ne6]
          have k2 : (s.set b6 (.cells [.str a.name, .str a.value, .bool a.static])) b3 = s b3 := by rw [Store.set_ne _ _ _ _ ne63]
          rw [hst] at hs6 k1 k2
          refine hg.appendT hs6 [attI a] ?_ ?_ ?_ ?_ ?_
          · simp [attI, insD, hst]
          · rfl
          · (try simp); omega
          · (try simp); omega
          intro out' tok' s' s4 g1 g2 g3 g4
          have g5 := g3.cells (k1.trans hsb)
          have g6 := g3.cells (k2.trans hsb3)
          simp (maxSteps := 2000000) +contextual [e1, e3, e4, e20, e21, e22, -decide_eq_true_eq, -decide_eq_false_iff_not]
          refine ⟨n - 1, by omega, s', SLe.refl _, i + 1, by omega, tok', out', ⟨rfl, rfl⟩, by rw [wrap_i64] <;> omega, g5, g6, s4, g4, g2, ?_⟩
          rw [← List.map_take]
          show (⟨o, w.tag, w.key⟩ : Ins) :: (w.attrs.take (i + 1)).map attI = out'
          rw [hn, g1, ← hout]; simp
      · rw [List.take_of_length_le (by omega)] at hout
        have hSS := hg.le.trans hs3
        by_cases ho3 : o = 3
        · have hve : elemB w = out := by
            rw [hE, ← hout]
            by_cases hvv : voidN w.tag = true
            · simp_all
            · simp_all
          rw [ho3] at hsb3
          simp (maxSteps := 2000000) +contextual [e1, e3, e4, e20, e21, e22, h4, hsb3, -decide_eq_true_eq, -decide_eq_false_iff_not]
          exact ⟨hSS, by rw [hve]⟩
        · have ho1 : o = 1 := by simp_all
          rw [ho1] at hsb3
          have hve : elemB w = out ++ (backL w.kids ++ [⟨2, ⟨#[]⟩, ⟨#[]⟩⟩]) := by
            first
              | (rw [hE, ← hout]; simp; done)
              | (exfalso; simp at ho; omega)
          simp (maxSteps := 2000000) +contextual [e1, e3, e4, e20, e21, e22, h4, hsb3, hsb, -decide_eq_true_eq, -decide_eq_false_iff_not]
          refine sub .ro _ _ ?_
          simp (maxSteps := 2000000) +contextual [e1, e3, e4, e20, e21, e22, h4, insD_length, -decide_eq_true_eq, -decide_eq_false_iff_not]
          refine hg.appendT hs3 (backL w.kids) ?_ ?_ ?_ ?_ ?_
          · rfl
          · rfl
          · (try simp); omega
          · (try simp); omega
          intro out2 tok2 s5 s6 g1 g2 g3 g4
          have g5 : out2.length = out.length + (backL w.kids).length := by rw [g1]; simp
          simp (maxSteps := 2000000) +contextual [insD_length, -decide_eq_true_eq, -decide_eq_false_iff_not]
          refine g4.appendT g2 [⟨2, ⟨#[]⟩, ⟨#[]⟩⟩] ?_ ?_ ?_ ?_ ?_
          · rfl
          · rfl
          · (try simp); omega
          · (try simp); omega
          intro out3 tok3 s7 s8 k1 k2 k3 k4
          simp (maxSteps := 2000000) +contextual [-decide_eq_true_eq, -decide_eq_false_iff_not]
          exact ⟨k4.le.trans k2, by rw [hve, k1, g1]; simp⟩

theorem c_backL_of (l : List Want) (t0 : Tok) (hsz : szL l ≤ 1048576) (one : ∀ w ∈ l, Ret Try.prog 91 [.agg (wantD w)] (.list ((elemB w).map insD) .ro)) :
    Ret Try.prog 57 [.list (l.map wantD) t0] (.list ((backL l).map insD) .ro) := by
  refine RetL.ro (RetL.of fun σ => ?_)
  have hl := sz_len l
  have hbs := back_sz (szL l + 1) l (by omega)
  refine HCalls.start mixed false _ _ (fn := Try.f57) (by kernel_rfl) rfl (by kernel_rfl) rfl (by kernel_rfl) (by kernel_rfl) ?_
  simp (maxSteps := 2000000) +contextual [-decide_eq_true_eq, -decide_eq_false_iff_not]
  refine hloop_intro (fun n e s => ∃ (i : Nat) (tok : Tok) (out : List Ins) (s3 : Store), i + n = l.length ∧ e 3 = .list (out.map insD) tok ∧ e 6 = .list (l.map wantD) t0 ∧ e 7 = .int .i64 l.length ∧ e 8 = .int .i64 i ∧ Gr 3 σ (out.map insD) tok s3 ∧ SLe s3 s ∧ Sm (backL (l.take i)) out) l.length ?_ ?_
  · refine ⟨0, .nil, [], σ, by simp, ?_⟩
    simp (maxSteps := 2000000) +contextual [-decide_eq_true_eq, -decide_eq_false_iff_not]
    exact ⟨.nil, rfl⟩
  · rintro n e s ⟨i, tok, out, s3, hi, e3, e6, e7, e8, hg, hs3, hout⟩
    have hout : backL (l.take i) = out := hout
    by_cases h4 : i < l.length
    · obtain ⟨w, hw, hw2⟩ : ∃ w, l[i]? = some w ∧ l[i] = w := ⟨_, List.getElem?_eq_getElem h4, rfl⟩
      have hmem := List.mem_of_getElem? hw
      have hn : backL (l.take (i + 1)) = out ++ backW w := by rw [take_next hw, backL_append, hout]; simp [backL]
      have hle : (backL (l.take (i + 1))).length ≤ (backL l).length := by
        have := backL_append (l.take (i + 1)) (l.drop (i + 1))
        rw [List.take_append_drop] at this
        rw [this]; simp
      rw [hn, List.length_append] at hle
      have fin : ∀ out' tok' s' s4, out' = out ++ backW w → SLe s4 s' → Gr 3 σ (out'.map insD) tok' s4 → ∃ m, m < n ∧ ∃ s'', SLe s'' s' ∧ ∃ i_1 : Nat, i_1 + m = l.length ∧ ∃ x x_1, (List.map insD out' = List.map insD x_1 ∧ tok' = x) ∧ IntKind.i64.wrap (↑i + 1) = ↑i_1 ∧ ∃ x_2, Gr 3 σ (List.map insD x_1) x x_2 ∧ SLe x_2 s'' ∧ Sm (backL (l.take i_1)) x_1 := fun out' tok' s' s4 h1 h2 h3 =>
        ⟨n - 1, by omega, s', SLe.refl _, i + 1, by omega, tok', out', ⟨rfl, rfl⟩, by rw [wrap_i64] <;> omega, s4, h3, h2, by show backL _ = out'; rw [hn, h1]⟩
      simp (maxSteps := 2000000) +contextual [e3, e6, e7, e8, wantD_length, h4, hw, hw2, -decide_eq_true_eq, -decide_eq_false_iff_not]
      intro b hb
      have hs6 : SLe s3 (s.set b (.cells (wantD w))) := hs3.trans ((SLe.refl s).set hb _)
      have hbw := backW_eq w
      rw [hbw] at hle fin
      by_cases h1 : w.kind = 1
      · rw [if_pos h1] at fin hle
        rw [wantD_eq] at hs6 ⊢
        simp (maxSteps := 2000000) +contextual [e3, e6, e7, e8, h1, -decide_eq_true_eq, -decide_eq_false_iff_not]
        rw [h1] at hs6
        have hd : [D.int .i64 1, .str w.tag, .str w.key, .str w.text, .list (w.attrs.map attrD) .ro, .list (w.kids.map wantD) .ro] = wantD w := by rw [wantD_eq, h1]
        rw [hd]
        refine one w hmem _ _ ?_
        simp (maxSteps := 2000000) +contextual [e3, e6, e7, e8, insD_length, -decide_eq_true_eq, -decide_eq_false_iff_not]
        rw [hd] at hs6
        refine hg.appendT hs6 (elemB w) ?_ ?_ ?_ ?_ ?_
        · rfl
        · rfl
        · (try simp); omega
        · (try simp); omega
        intro out1 tok1 s1 s2 g1 g2 g3 g4
        simp (maxSteps := 2000000) +contextual [e3, e6, e7, e8, -decide_eq_true_eq, -decide_eq_false_iff_not]
        exact fin out1 tok1 s1 s2 g1 g2 g4
      · rw [if_neg h1] at fin hle
        rw [wantD_eq] at hs6 ⊢
        by_cases h2 : w.kind = 2
        · rw [if_pos h2] at fin hle
          rw [h2] at hs6
          simp (maxSteps := 2000000) +contextual [e3, e6, e7, e8, h2, insD_length, -decide_eq_true_eq, -decide_eq_false_iff_not]
          refine hg.appendT hs6 [⟨4, w.text, ⟨#[]⟩⟩] ?_ ?_ ?_ ?_ ?_
          · rfl
          · rfl
          · (try simp); omega
          · (try simp); omega
          intro out1 tok1 s1 s2 g1 g2 g3 g4
          simp (maxSteps := 2000000) +contextual [e3, e6, e7, e8, -decide_eq_true_eq, -decide_eq_false_iff_not]
          exact fin out1 tok1 s1 s2 g1 g2 g4
        · rw [if_neg h2] at fin hle
          by_cases h3 : w.kind = 3
          · rw [if_pos h3] at fin hle
            rw [h3] at hs6
            simp (maxSteps := 2000000) +contextual [e3, e6, e7, e8, h3, insD_length, -decide_eq_true_eq, -decide_eq_false_iff_not]
            refine hg.appendT hs6 [⟨8, ⟨#[]⟩, ⟨#[]⟩⟩] ?_ ?_ ?_ ?_ ?_
            · rfl
            · rfl
            · (try simp); omega
            · (try simp); omega
            intro out1 tok1 s1 s2 g1 g2 g3 g4
            simp (maxSteps := 2000000) +contextual [e3, e6, e7, e8, -decide_eq_true_eq, -decide_eq_false_iff_not]
            exact fin out1 tok1 s1 s2 g1 g2 g4
          · rw [if_neg h3] at fin hle
            by_cases h5 : w.kind = 4
            · rw [if_pos h5] at fin hle
              rw [h5] at hs6
              simp (maxSteps := 2000000) +contextual [e3, e6, e7, e8, h5, insD_length, -decide_eq_true_eq, -decide_eq_false_iff_not]
              refine hg.appendT hs6 [⟨7, ⟨#[]⟩, ⟨#[]⟩⟩] ?_ ?_ ?_ ?_ ?_
              · rfl
              · rfl
              · (try simp); omega
              · (try simp); omega
              intro out1 tok1 s1 s2 g1 g2 g3 g4
              simp (maxSteps := 2000000) +contextual [e3, e6, e7, e8, -decide_eq_true_eq, -decide_eq_false_iff_not]
              exact fin out1 tok1 s1 s2 g1 g2 g4
            · rw [if_neg h5, List.append_nil] at fin
              simp (maxSteps := 2000000) +contextual [e3, e6, e7, e8, h1, h2, h3, h5, -decide_eq_true_eq, -decide_eq_false_iff_not]
              exact fin out tok _ s3 rfl hs6 hg
    · rw [List.take_of_length_le (by omega)] at hout
      simp (maxSteps := 2000000) +contextual [e3, e6, e7, e8, h4, -decide_eq_true_eq, -decide_eq_false_iff_not]
      exact ⟨hg.le.trans hs3, by rw [hout]⟩
theorem c_backL : ∀ (m : Nat) (l : List Want) (t0 : Tok), szL l < m → szL l ≤ 1048576 → Ret Try.prog 57 [.list (l.map wantD) t0] (.list ((backL l).map insD) .ro) := by
  intro m
  induction m with
  | zero => intro l t0 h; omega
  | succ m ih =>
    intro l t0 hm hsz
    refine c_backL_of l t0 hsz fun w hw => ?_
    have h1 := sz_mem hw
    have h2 := szW_eq w
    exact c_element_of w (by omega) fun t => ih w.kids t (by omega) (by omega)
end Go.HL
