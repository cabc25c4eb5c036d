/- Parts of the proofs, one behind the other: Gwish Gbound Gblk. -/
import Derived.Test.YtdbbbhjajkobaabA4
import Derived.Test.YtdbbbhjajkobaabA3
/- What is wanted: what the program's layer 14 does. -/
set_option linter.unusedVariables false
set_option linter.unusedSimpArgs false
set_option maxRecDepth 100000
set_option maxHeartbeats 1000000
namespace Go.HL
open Go.RowKit Go.Proofs

inductive Want where
  | mk (kind : Int) (tag key text : ByteArray) (attrs : List Attr) (kids : List Want)
def Want.kind : Want → Int | .mk k _ _ _ _ _ => k
def Want.tag : Want → ByteArray | .mk _ t _ _ _ _ => t
def Want.key : Want → ByteArray | .mk _ _ k _ _ _ => k
def Want.text : Want → ByteArray | .mk _ _ _ t _ _ => t
def Want.attrs : Want → List Attr | .mk _ _ _ _ a _ => a
def Want.kids : Want → List Want | .mk _ _ _ _ _ k => k
mutual
def wantD : Want → List D
  | .mk k t ke te a ks => [.int .i64 k, .str t, .str ke, .str te, .list (a.map attrD) .ro, .list (wantsD ks) .ro]
def wantsD : List Want → List (List D)
  | [] => []
  | w :: r => wantD w :: wantsD r
end
/-- An equation that rewriting leaves alone. -/
def Sm {α : Type} (a b : α) : Prop := a = b
theorem wantsD_eq (l : List Want) : wantsD l = l.map wantD := by
  induction l with
  | nil => rfl
  | cons w r ih => simp [wantsD, ih]
theorem wantD_eq (w : Want) : wantD w = [.int .i64 w.kind, .str w.tag, .str w.key, .str w.text, .list (w.attrs.map attrD) .ro, .list (w.kids.map wantD) .ro] := by
  cases w; simp only [wantD, wantsD_eq, Want.kind, Want.tag, Want.key, Want.text, Want.attrs, Want.kids]
theorem wantD_length (w : Want) : (wantD w).length = 6 := by rw [wantD_eq]; rfl
@[simp] theorem wantD_take (w : Want) : List.take 6 (wantD w) = wantD w := List.take_of_length_le (by rw [wantD_length]; omega)

def insA (x : Ins) : Attr := ⟨x.a, x.b, decide (x.op = 6)⟩
/-- What is wanted first, and what stands behind. -/
def oneW (sub : List Ins → List Want × List Ins) (x : Ins) (r : List Ins) : Want × List Ins :=
  if x.op = 4 then (.mk 2 ⟨#[]⟩ ⟨#[]⟩ x.a [] [], r)
  else if x.op = 8 then (.mk 3 ⟨#[]⟩ ⟨#[]⟩ ⟨#[]⟩ [] [], r)
  else if x.op = 7 then (.mk 4 ⟨#[]⟩ ⟨#[]⟩ ⟨#[]⟩ [] [], r)
  else if x.op = 1 then (.mk 1 x.a x.b ⟨#[]⟩ ((r.takeWhile fun y => isTell y.op).map insA) (sub (r.dropWhile fun y => isTell y.op)).1, (sub (r.dropWhile fun y => isTell y.op)).2)
  else (.mk 1 x.a x.b ⟨#[]⟩ ((r.takeWhile fun y => isTell y.op).map insA) [], r.dropWhile fun y => isTell y.op)
def someW : Nat → List Ins → List Want × List Ins
  | 0, l => ([], l.tail)
  | n + 1, [] => ([], [])
  | n + 1, x :: r => if x.op = 2 then ([], r) else ((oneW (someW n) x r).1 :: (someW n (oneW (someW n) x r).2).1, (someW n (oneW (someW n) x r).2).2)
theorem dropW_le (r : List Ins) (p : Ins → Bool) : (r.dropWhile p).length ≤ r.length := (List.dropWhile_sublist p).length_le
theorem someW_le : ∀ (n : Nat) (l : List Ins), (someW n l).2.length ≤ l.length := by
  intro n
  induction n with
  | zero => intro l; simp [someW]
  | succ n ih =>
    intro l
    cases l with
    | nil => simp [someW]
    | cons x r =>
      simp only [someW]
      split
      · simp
      · have h1 := ih (oneW (someW n) x r).2
        have h2 : (oneW (someW n) x r).2.length ≤ r.length := by
          have h3 := dropW_le r fun y => isTell y.op
          have h4 := ih (r.dropWhile fun y => isTell y.op)
          unfold oneW
          split
          · exact Nat.le_refl _
          · split
            · exact Nat.le_refl _
            · split
              · exact Nat.le_refl _
              · split
                · simp only; omega
                · exact h3
        simp only [List.length_cons]; omega
theorem oneW_le (n : Nat) (x : Ins) (r : List Ins) : (oneW (someW n) x r).2.length ≤ r.length := by
  have h3 := dropW_le r fun y => isTell y.op
  have h4 := someW_le n (r.dropWhile fun y => isTell y.op)
  unfold oneW
  split
  · exact Nat.le_refl _
  · split
    · exact Nat.le_refl _
    · split
      · exact Nat.le_refl _
      · split
        · simp only; omega
        · exact h3
theorem suf_one {sub : List Ins → List Want × List Ins} (h : ∀ l, (sub l).2 <:+ l) (x : Ins) (r : List Ins) : (oneW sub x r).2 <:+ r := by
  have h3 : r.dropWhile (fun y => isTell y.op) <:+ r := List.dropWhile_suffix _
  unfold oneW
  split
  · exact List.suffix_refl _
  · split
    · exact List.suffix_refl _
    · split
      · exact List.suffix_refl _
      · split
        · exact (h _).trans h3
        · exact h3
theorem suf_some : ∀ (n : Nat) (l : List Ins), (someW n l).2 <:+ l := by
  intro n
  induction n with
  | zero => intro l; exact List.tail_suffix l
  | succ n ih =>
    intro l
    cases l with
    | nil => exact List.suffix_refl _
    | cons x r =>
      simp only [someW]
      split
      · exact List.suffix_cons x r
      · exact ((ih _).trans (suf_one ih x r)).trans (List.suffix_cons x r)
theorem someW_fuel : ∀ (n m : Nat) (l : List Ins), l.length ≤ n → l.length ≤ m → someW n l = someW m l := by
  intro n
  induction n with
  | zero =>
    intro m l h1 h2
    have : l = [] := List.eq_nil_of_length_eq_zero (by omega)
    subst this
    cases m <;> rfl
  | succ n ih =>
    intro m l h1 h2
    cases l with
    | nil => cases m <;> rfl
    | cons x r =>
      cases m with
      | zero => simp at h2
      | succ m =>
        simp only [List.length_cons] at h1 h2
        have e : oneW (someW n) x r = oneW (someW m) x r := by
          have h3 := dropW_le r fun y => isTell y.op
          unfold oneW
          rw [ih m (r.dropWhile fun y => isTell y.op) (by omega) (by omega)]
        have h5 := oneW_le m x r
        simp only [someW, e]
        rw [ih m (oneW (someW m) x r).2 (by omega) (by omega)]
def someP (l : List Ins) : List Want × List Ins := someW l.length l

def someD (l : List Ins) : D := .tup [.list ((someP l).1.map wantD) .ro, .list ((someP l).2.map insD) .ro]
def oneP2 (x : Ins) (r : List Ins) : Want × List Ins := oneW someP x r
def wone (x : Ins) (r : List Ins) : D := .tup [.agg (wantD (oneP2 x r).1), .list ((oneP2 x r).2.map insD) .ro]
theorem FitL.sub {l m : List Ins} (h : FitL l) (hs : m.Sublist l) : FitL m := ⟨by have := hs.length_le; have := h.1; omega, fun x hx => h.2 x (hs.subset hx)⟩
theorem c_wone (x : Ins) (r : List Ins) (t0 : Tok) (hl : FitL (x :: r)) (sub : ∀ (l : List Ins) (t : Tok), l.length ≤ r.length → FitL l → Ret Try.prog 114 [.list (l.map insD) t] (someD l)) :
    Ret Try.prog 140 [.list ((x :: r).map insD) t0] (wone x r) := by
  refine Ret.weak fun σ => ?_
  refine HCalls.start mixed false _ _ (fn := Try.f140) (by kernel_rfl) rfl (by kernel_rfl) rfl (by kernel_rfl) (by kernel_rfl) ?_
  have hl1 := hl.1
  simp only [List.length_cons] at hl1
  have etake : List.take r.length (r.map insD) = r.map insD := List.take_of_length_le (by simp)
  simp (maxSteps := 2000000) +contextual [insD_length, -decide_eq_true_eq, -decide_eq_false_iff_not]
  intro b2 hb2
  refine hdraw_intro (by kernel_rfl) ?_
  simp (maxSteps := 2000000) +contextual [insD_length, insD_def, etake, -decide_eq_true_eq, -decide_eq_false_iff_not]
  refine ⟨by omega, fun b n1 hb => ?_⟩
  have hS : SLe σ ((σ.set b2 (.cells [.int .i64 0, .str ⟨#[]⟩, .str ⟨#[]⟩, .str ⟨#[]⟩, .list [] .nil, .list [] .nil])).set b (.cells [.int .i64 x.op, .str x.a, .str x.b])) := by (intro xx oo hh; simp only [Store.set] at hh ⊢; grind)
  have wk : ∀ (k : Int) (t ke te : ByteArray) (a : List Attr) (ks : List Want) (t1 t2 : Tok), Wk (.agg [.int .i64 k, .str t, .str ke, .str te, .list (a.map attrD) t1, .list (ks.map wantD) t2]) (.agg (wantD (.mk k t ke te a ks))) := by
    intro k t ke te a ks t1 t2
    rw [wantD_eq]
    refine .agg _ _ rfl fun i d d' h1 h2 => ?_
    match i with
    | 0 => simp at h1 h2; subst h1 h2; exact .refl _
    | 1 => simp at h1 h2; subst h1 h2; exact .refl _
    | 2 => simp at h1 h2; subst h1 h2; exact .refl _
    | 3 => simp at h1 h2; subst h1 h2; exact .refl _
    | 4 => simp at h1 h2; subst h1 h2; exact .list _ _
    | 5 => simp at h1 h2; subst h1 h2; exact .list _ _
    | n + 6 => simp at h1
  refine ⟨fun h4 => ⟨by (intro xx oo hh; simp only [Store.set] at hh ⊢; grind), ?_⟩, fun h4 => ⟨fun h8 => ⟨by (intro xx oo hh; simp only [Store.set] at hh ⊢; grind), ?_⟩, fun h8 => ⟨fun h7 => ⟨by (intro xx oo hh; simp only [Store.set] at hh ⊢; grind), ?_⟩, fun h7 b5 n5 n52 hb5 => ?_⟩⟩⟩
  · have ho : oneP2 x r = (.mk 2 ⟨#[]⟩ ⟨#[]⟩ x.a [] [], r) := by simp [oneP2, oneW, dec_t h4]
    unfold wone
    rw [ho]
    exact Wk.two (wk 2 ⟨#[]⟩ ⟨#[]⟩ x.a [] [] .nil .nil) (.refl _)
  · have ho : oneP2 x r = (.mk 3 ⟨#[]⟩ ⟨#[]⟩ ⟨#[]⟩ [] [], r) := by simp [oneP2, oneW, dec_t h8]
    unfold wone
    rw [ho]
    exact Wk.two (wk 3 ⟨#[]⟩ ⟨#[]⟩ ⟨#[]⟩ [] [] .nil .nil) (.refl _)
  · have ho : oneP2 x r = (.mk 4 ⟨#[]⟩ ⟨#[]⟩ ⟨#[]⟩ [] [], r) := by simp [oneP2, oneW, dec_t h7]
    unfold wone
    rw [ho]
    exact Wk.two (wk 4 ⟨#[]⟩ ⟨#[]⟩ ⟨#[]⟩ [] [] .nil .nil) (.refl _)
  · have h4 := dec_f h4
    have h8 := dec_f h8
    have h7 := dec_f h7
    let tl : Ins → Bool := fun y => isTell y.op
    refine hloop_intro (fun n e s => ∃ (rest pre : List Ins) (ats : List Attr) (tok : Tok) (s3 : Store), rest.length ≤ n ∧ r = pre ++ rest ∧ Front tl pre pre.length ∧ Sm (pre.map insA) ats ∧ e 0 = .list (rest.map insD) .ro ∧ e 2 = .ptr b2 0 ∧ e 4 = .ptr b 0 ∧ e 5 = .ptr b5 0 ∧
      s b2 = some (.cells [.int .i64 0, .str ⟨#[]⟩, .str ⟨#[]⟩, .str ⟨#[]⟩, .list [] .nil, .list [] .nil]) ∧ s b = some (.cells [.int .i64 x.op, .str x.a, .str x.b]) ∧ s b5 = some (.cells [.int .i64 1, .str x.a, .str x.b, .str ⟨#[]⟩, .list (ats.map attrD) tok, .list [] .nil]) ∧
      Gr 3 σ (ats.map attrD) tok s3 ∧ SLe s3 s) r.length ?_ ?_
    · refine ⟨r, [], [], .nil, σ, Nat.le_refl _, rfl, Front.zero _ _, rfl, ?_⟩
      have n1' : ¬ b2 = b := fun e => n1 e.symm
      have n5' : ¬ b = b5 := fun e => n5 e.symm
      have n52' : ¬ b2 = b5 := fun e => n52 e.symm
      simp (maxSteps := 2000000) +contextual [n1, n1', n5, n5', n52, n52', -decide_eq_true_eq, -decide_eq_false_iff_not]
      exact ⟨.nil, by (intro xx oo hh; simp only [Store.set] at hh ⊢; grind)⟩
    · rintro n e s ⟨rest, pre, ats, tok, s3, hn, hpre, hfr, has, e0, e2, e4, e5, hs2, hs, hs5, hg, hs3⟩
      have has : pre.map insA = ats := has
      have hal : ats.length = pre.length := by rw [← has]; simp
      have hrl : r.length = pre.length + rest.length := by rw [hpre]; simp
      have htw : ∀ (y : Ins) (q : List Ins), rest = y :: q → isTell y.op = false → r.takeWhile tl = pre ∧ r.dropWhile tl = rest := by
        intro y q hq hy
        have hall : ∀ z ∈ pre, tl z = true := List.all_eq_true.1 (hfr.all (Nat.le_refl _))
        rw [hpre, hq]
        exact ⟨by rw [List.takeWhile_append_of_pos hall]; simp [tl, hy], by rw [List.dropWhile_append_of_pos hall]; simp [tl, hy]⟩
      have htw0 : rest = [] → r.takeWhile tl = pre ∧ r.dropWhile tl = rest := by
        intro hq
        have hall : ∀ z ∈ pre, tl z = true := List.all_eq_true.1 (hfr.all (Nat.le_refl _))
        rw [hpre, hq]
        exact ⟨by rw [List.takeWhile_append_of_pos hall]; simp, by rw [List.dropWhile_append_of_pos hall]; simp⟩
      have hcase : (∃ y q, rest = y :: q ∧ isTell y.op = true) ∨ (rest = [] ∨ ∃ y q, rest = y :: q ∧ isTell y.op = false) := by
        cases rest with
        | nil => exact .inr (.inl rfl)
        | cons y q => cases h : isTell y.op with
          | true => exact .inl ⟨y, q, rfl, h⟩
          | false => exact .inr (.inr ⟨y, q, rfl, h⟩)
      rcases hcase with ⟨y, q, rfl, hy⟩ | hcase
      · have hpos : 0 < (q.length : Int) + 1 := by omega
        simp only [List.length_cons] at hrl hn
        simp (maxSteps := 2000000) +contextual [e0, e2, e4, e5, hs2, hs, hs5, insD_length, insD_def, hpos, -decide_eq_true_eq, -decide_eq_false_iff_not]
        refine c_tells _ _ _ ?_
        rw [show (decide (y.op = 5) || decide (y.op = 6)) = true from hy]
        simp (maxSteps := 2000000) +contextual [e0, e2, e4, e5, hs2, hs, hs5, insD_length, insD_def, hpos, -decide_eq_true_eq, -decide_eq_false_iff_not]
        refine hdraw_cut 17 _ (SLe.refl _) (by kernel_rfl) (by kernel_rfl) ?_
        simp (maxSteps := 2000000) +contextual [e0, e2, e4, e5, hs2, hs, hs5, insD_length, insD_def, hpos, attrD_length, -decide_eq_true_eq, -decide_eq_false_iff_not]
        refine ⟨fun _ => none, (fun _ _ h => by cases h), ?_⟩
        refine hg.appendT hs3 [insA y] ?_ ?_ ?_ ?_ ?_
        · rfl
        · rfl
        · (try simp); omega
        · (try simp); omega
        intro ats1 tok1 s1 s4 ho1 hs1 hk1 hg1
        have k2 := hk1.cells hs2
        have k1 := hk1.cells hs
        have k5 := hk1.cells hs5
        have ne25 : b2 ≠ b5 := fun e => n52 e.symm
        have ne15 : b ≠ b5 := fun e => n5 e.symm
        have ne21 : b2 ≠ b := fun e => n1 e.symm
        have hoff := hg1.off hs1 hb5 k5
        have etq : List.take q.length (q.map insD) = q.map insD := List.take_of_length_le (by simp)
        simp (maxSteps := 2000000) +contextual [e0, e2, e4, e5, hs2, hs, hs5, insD_length, insD_def, hpos, k5, etq, -decide_eq_true_eq, -decide_eq_false_iff_not]
        refine ⟨by (intro xx oo hh; simp only [Store.set] at hh ⊢; grind), by (intro xx oo hh; simp only [Store.set] at hh ⊢; grind), by omega, n - 1, by omega, _, SLe.refl _, q, by omega, ?_⟩
        refine ⟨pre ++ [y], by rw [hpre]; simp, ?_, ats1, ?_, rfl, ?_, ?_, tok1, ?_, s4, hg1, hs1.put hoff _⟩
        · unfold Front at hfr ⊢
          rw [List.take_length] at hfr ⊢
          rw [List.all_append, hfr]; simp [tl, hy]
        · show (pre ++ [y]).map insA = ats1
          rw [ho1, ← has]; simp
        · rw [Store.set_ne _ _ _ _ ne25]; exact k2
        · rw [Store.set_ne _ _ _ _ ne15]; exact k1
        · rw [Store.set_same]
      · have hT : r.takeWhile tl = pre ∧ r.dropWhile tl = rest := by
          rcases hcase with h | ⟨y, q, h, hy⟩
          · exact htw0 h
          · exact htw y q h hy
        have hele : ∀ (ks : List Want), oneW someP x r = if x.op = 1 then (.mk 1 x.a x.b ⟨#[]⟩ ats (someP rest).1, (someP rest).2) else (.mk 1 x.a x.b ⟨#[]⟩ ats [], rest) := fun _ => by
          unfold oneW
          rw [if_neg h4, if_neg h8, if_neg h7, hT.1, hT.2, has]
        have ho := hele []
        have ne25 : b2 ≠ b5 := fun e => n52 e.symm
        have ne15 : b ≠ b5 := fun e => n5 e.symm
        have ne21 : b2 ≠ b := fun e => n1 e.symm
        have hfrest : FitL rest := hl.sub (by rw [hpre]; exact ((List.sublist_append_right pre rest).trans (List.sublist_cons_self x _)))
        have hleS := hg.le.trans hs3
        rcases hcase with rfl | ⟨y, q, rfl, hy⟩
        focus
          by_cases h1 : x.op = 1
          focus
            simp (maxSteps := 2000000) +contextual [e0, e2, e4, e5, hs2, hs, hs5, insD_length, insD_def, h1, -decide_eq_true_eq, -decide_eq_false_iff_not]
          rotate_left
          focus
            simp (maxSteps := 2000000) +contextual [e0, e2, e4, e5, hs2, hs, hs5, insD_length, insD_def, h1, -decide_eq_true_eq, -decide_eq_false_iff_not]
        rotate_left
        rotate_left
        focus
          have hpos : 0 < (q.length : Int) + 1 := by omega
          simp (maxSteps := 2000000) +contextual [e0, e2, e4, e5, hs2, hs, hs5, insD_length, insD_def, hpos, -decide_eq_true_eq, -decide_eq_false_iff_not]
          refine c_tells _ _ _ ?_
          rw [show (decide (y.op = 5) || decide (y.op = 6)) = false from hy]
          by_cases h1 : x.op = 1
          focus
            simp (maxSteps := 2000000) +contextual [e0, e2, e4, e5, hs2, hs, hs5, insD_length, insD_def, hpos, h1, -decide_eq_true_eq, -decide_eq_false_iff_not]
          rotate_left
          focus
            simp (maxSteps := 2000000) +contextual [e0, e2, e4, e5, hs2, hs, hs5, insD_length, insD_def, hpos, h1, -decide_eq_true_eq, -decide_eq_false_iff_not]
        all_goals first
          | (refine ⟨hleS.put hb2 _, ?_⟩
             unfold wone oneP2
             rw [ho, if_neg h1]
             exact Wk.two (wk 1 _ _ _ ats [] tok .nil) (.refl _))
          | (refine sub _ .ro (by first | exact Nat.zero_le _ | (simp only [List.length_cons] at hrl ⊢; omega)) hfrest _ _ ?_
             unfold someD
             rw [if_pos h1] at ho
             simp (maxSteps := 2000000) +contextual [e0, e2, e4, e5, hs2, hs, hs5, insD_length, insD_def, ne25, -decide_eq_true_eq, -decide_eq_false_iff_not]
             refine ⟨(hleS.put hb5 _).put hb2 _, ?_⟩
             unfold wone oneP2
             rw [ho]
             exact Wk.two (wk 1 _ _ _ ats _ tok .ro) (.refl _))
theorem c_wsome_of (l : List Ins) (t0 : Tok) (hl : FitL l) (one : ∀ (x : Ins) (r : List Ins) (t : Tok), (x :: r).length ≤ l.length → FitL (x :: r) → Ret Try.prog 140 [.list ((x :: r).map insD) t] (wone x r)) :
    Ret Try.prog 114 [.list (l.map insD) t0] (someD l) := by
  refine Ret.weak fun σ => ?_
  refine HCalls.start mixed false _ _ (fn := Try.f114) (by kernel_rfl) rfl (by kernel_rfl) rfl (by kernel_rfl) (by kernel_rfl) ?_
  have hl1 := hl.1
  simp (maxSteps := 2000000) +contextual [-decide_eq_true_eq, -decide_eq_false_iff_not]
  refine hloop_intro (fun n e s => ∃ (rest : List Ins) (out : List Want) (t1 tok : Tok) (s3 : Store), rest.length ≤ n ∧ rest.length + out.length ≤ l.length ∧ FitL rest ∧ e 0 = .list (rest.map insD) t1 ∧ e 4 = .list (out.map wantD) tok ∧ Gr 6 σ (out.map wantD) tok s3 ∧ SLe s3 s ∧ Sm (someP l) (out ++ (someP rest).1, (someP rest).2)) l.length ?_ ?_
  · refine ⟨l, [], t0, .nil, σ, Nat.le_refl _, by simp, hl, ?_⟩
    simp (maxSteps := 2000000) +contextual [-decide_eq_true_eq, -decide_eq_false_iff_not]
    exact ⟨.nil, rfl⟩
  · rintro n e s ⟨rest, out, t1, tok, s3, hn, hlen, hfr, e0, e4, hg, hs3, hsm⟩
    have hsm : someP l = (out ++ (someP rest).1, (someP rest).2) := hsm
    have hcase : (∃ x r, rest = x :: r ∧ ¬ x.op = 2) ∨ (rest = [] ∨ ∃ x r, rest = x :: r ∧ x.op = 2) := by
      cases rest with
      | nil => exact .inr (.inl rfl)
      | cons x r => by_cases h : x.op = 2
                    · exact .inr (.inr ⟨x, r, rfl, h⟩)
                    · exact .inl ⟨x, r, rfl, h⟩
    rcases hcase with ⟨x, r, rfl, h2⟩ | hcase
    · have hpos : 0 < (r.length : Int) + 1 := by omega
      simp (maxSteps := 2000000) +contextual [e0, e4, insD_length, insD_def, hpos, h2, -decide_eq_true_eq, -decide_eq_false_iff_not]
      intro b hb
      refine one x r t1 (by simp only [List.length_cons] at hlen ⊢; omega) hfr _ _ ?_
      have hx1 := oneW_le r.length x r
      have ho2 : oneP2 x r = oneW (someW r.length) x r := by
        have h3 := dropW_le r fun y => isTell y.op
        unfold oneP2 oneW someP
        rw [someW_fuel (r.dropWhile fun y => isTell y.op).length r.length _ (Nat.le_refl _) h3]
      have hsn : someP (x :: r) = ((oneP2 x r).1 :: (someP (oneP2 x r).2).1, (someP (oneP2 x r).2).2) := by
        have h5 := oneW_le r.length x r
        have : someP (oneP2 x r).2 = someW r.length (oneP2 x r).2 := by
          unfold someP
          exact someW_fuel _ _ _ (Nat.le_refl _) (by rw [ho2]; exact h5)
        rw [this, ho2]
        show someW (r.length + 1) (x :: r) = _
        simp only [someW, if_neg h2]
      have hsuf : (oneP2 x r).2 <:+ r := suf_one (fun l => suf_some _ l) x r
      unfold wone
      rw [← ho2] at hx1
      generalize oneP2 x r = p at *
      obtain ⟨w, r2⟩ := p
      simp only [List.length_cons] at hlen hn hx1
      have hfr2 : FitL r2 := hfr.sub (hsuf.sublist.trans (List.sublist_cons_self x r))
      simp (maxSteps := 2000000) +contextual [e0, e4, hpos, wantD_length, -decide_eq_true_eq, -decide_eq_false_iff_not]
      refine hg.appendT (hs3.trans ((SLe.refl s).set hb _)) [w] ?_ ?_ ?_ ?_ ?_
      · rfl
      · rfl
      · (try simp); omega
      · (try simp); omega
      intro out1 tok1 s1 s2 ho1 hs1 hk1 hg1
      simp (maxSteps := 2000000) +contextual [e0, e4, -decide_eq_true_eq, -decide_eq_false_iff_not]
      refine ⟨n - 1, by omega, s1, SLe.refl _, r2, by omega, out1, by rw [ho1]; simp; omega, hfr2, rfl, tok1, ⟨rfl, rfl⟩, s2, hg1, hs1, ?_⟩
      show someP l = _
      rw [hsm, hsn, ho1]
      simp
    · have hse : (someP rest).1 = [] ∧ (someP rest).2 = rest.tail := by
        rcases hcase with rfl | ⟨x, r, rfl, h2⟩
        · exact ⟨rfl, rfl⟩
        · show (someW (r.length + 1) (x :: r)).1 = [] ∧ (someW (r.length + 1) (x :: r)).2 = r
          simp [someW, h2]
      have hD : ∀ tok, Wk (.tup [.list (out.map wantD) tok, .list (rest.tail.map insD) .ro]) (someD l) := fun tok => by
        unfold someD
        rw [hsm, hse.1, hse.2, List.append_nil]
        exact Wk.two (.list _ _) (.refl _)
      rcases hcase with rfl | ⟨x, r, rfl, h2⟩
      · simp (maxSteps := 2000000) +contextual [e0, e4, -decide_eq_true_eq, -decide_eq_false_iff_not]
        refine hdraw_intro (by kernel_rfl) ?_
        simp (maxSteps := 2000000) +contextual [e0, e4, -decide_eq_true_eq, -decide_eq_false_iff_not]
        exact ⟨hg.le.trans hs3, hD tok⟩
      · have hpos : 0 < (r.length : Int) + 1 := by omega
        simp (maxSteps := 2000000) +contextual [e0, e4, insD_length, insD_def, hpos, h2, -decide_eq_true_eq, -decide_eq_false_iff_not]
        refine hdraw_intro (by kernel_rfl) ?_
        have hmin : (if (1 : Int) < (r.length : Int) + 1 then (1 : Int) else (r.length : Int) + 1) = 1 := by split <;> omega
        have etake : List.take r.length (r.map insD) = r.map insD := List.take_of_length_le (by simp)
        simp (maxSteps := 2000000) +contextual [e0, e4, hpos, hmin, etake, insD_length, -decide_eq_true_eq, -decide_eq_false_iff_not]
        exact ⟨by omega, hg.le.trans hs3, hD tok⟩
theorem c_wsome : ∀ (n : Nat) (l : List Ins) (t0 : Tok), l.length ≤ n → FitL l → Ret Try.prog 114 [.list (l.map insD) t0] (someD l) := by
  intro n
  induction n with
  | zero =>
    intro l t0 hn hl
    refine c_wsome_of l t0 hl fun x r t h1 h2 => ?_
    simp only [List.length_cons] at h1; omega
  | succ n ih =>
    intro l t0 hn hl
    refine c_wsome_of l t0 hl fun x r t h1 h2 => c_wone x r t h2 fun l' t' h3 h4 => ih l' t' ?_ h4
    simp only [List.length_cons] at h1; omega

def ofD (l : List Ins) : D := if chkP l = 0 then .tup [.list ((someP l).1.map wantD) .ro, .lit .nilIface] else .tup [.list [] .nil, errD (chkP l)]
theorem c_wof (l : List Ins) (t0 : Tok) (hl : FitL l) : Ret Try.prog 65 [.list (l.map insD) t0] (ofD l) := by
  refine Ret.of fun σ => ?_
  refine HCalls.start mixed false _ _ (fn := Try.f65) (by kernel_rfl) rfl (by kernel_rfl) rfl (by kernel_rfl) (by kernel_rfl) ?_
  simp (maxSteps := 2000000) +contextual [-decide_eq_true_eq, -decide_eq_false_iff_not]
  refine c_check l t0 hl _ _ ?_
  by_cases h : chkP l = 0
  · simp (maxSteps := 2000000) +contextual [h, ofD, -decide_eq_true_eq, -decide_eq_false_iff_not]
    refine c_wsome l.length l t0 (Nat.le_refl _) hl _ _ ?_
    simp (maxSteps := 2000000) +contextual [someD, ofD, h, -decide_eq_true_eq, -decide_eq_false_iff_not]
  · have he : errD (chkP l) = .lit (.iface 62 (.int .i64 (chkP l))) := by simp [errD, h]
    unfold ofD
    rw [if_neg h, he]
    simp (maxSteps := 2000000) +contextual [-decide_eq_true_eq, -decide_eq_false_iff_not]

mutual
def cntW : Want → Nat
  | .mk k _ _ _ _ ks => if k = 1 then 1 + cntL ks else if k = 2 then 1 else 0
def cntL : List Want → Nat
  | [] => 0
  | w :: r => cntW w + cntL r
end
theorem cntL_append (a b : List Want) : cntL (a ++ b) = cntL a + cntL b := by
  induction a with
  | nil => simp [cntL]
  | cons w a ih => simp only [List.cons_append, cntL, ih]; omega
theorem cntW_eq (w : Want) : cntW w = if w.kind = 1 then 1 + cntL w.kids else if w.kind = 2 then 1 else 0 := by cases w; rfl
theorem cnt_mem {w : Want} {l : List Want} (h : w ∈ l) : cntW w ≤ cntL l := by
  induction l with
  | nil => simp at h
  | cons x r ih =>
    simp only [cntL]
    rcases List.mem_cons.1 h with rfl | h
    · omega
    · have := ih h; omega

mutual
/-- How many nodes and attributes there are. -/
def szW : Want → Nat
  | .mk _ _ _ _ a ks => 1 + a.length + szL ks
def szL : List Want → Nat
  | [] => 0
  | w :: r => szW w + szL r
end
theorem szL_append (a b : List Want) : szL (a ++ b) = szL a + szL b := by
  induction a with
  | nil => simp [szL]
  | cons w a ih => simp only [List.cons_append, szL, ih]; omega
theorem szW_eq (w : Want) : szW w = 1 + w.attrs.length + szL w.kids := by cases w; rfl
theorem sz_mem {w : Want} {l : List Want} (h : w ∈ l) : szW w ≤ szL l := by
  induction l with
  | nil => simp at h
  | cons x r ih =>
    simp only [szL]
    rcases List.mem_cons.1 h with rfl | h
    · omega
    · have := ih h; omega
theorem sz_len (l : List Want) : l.length ≤ szL l := by
  induction l with
  | nil => simp
  | cons w r ih => simp only [List.length_cons, szL, szW_eq]; omega
theorem cnt_sz : ∀ (m : Nat) (l : List Want), szL l < m → cntL l ≤ szL l := by
  intro m
  induction m with
  | zero => intro l h; omega
  | succ m ih =>
    intro l
    induction l with
    | nil => intro _; simp [cntL]
    | cons w r ih2 =>
      intro h
      simp only [szL] at h
      have h1 := ih2 (by omega)
      have h2 := szW_eq w
      have h3 := ih w.kids (by omega)
      simp only [cntL, szL, cntW_eq]
      split
      · omega
      · split <;> omega
/-- What a program wants is no more than it has instructions. -/
theorem someW_sz : ∀ (n : Nat) (l : List Ins), szL (someW n l).1 + (someW n l).2.length ≤ l.length := by
  intro n
  induction n with
  | zero => intro l; simp [someW, szL]
  | succ n ih =>
    intro l
    cases l with
    | nil => simp [someW, szL]
    | cons x r =>
      simp only [someW]
      split
      · simp [szL]
      · have h1 := ih (oneW (someW n) x r).2
        have h2 : szW (oneW (someW n) x r).1 + (oneW (someW n) x r).2.length ≤ r.length + 1 := by
          have e0 : szL [] = 0 := by simp [szL]
          have h3 : (r.takeWhile fun y => isTell y.op).length + (r.dropWhile fun y => isTell y.op).length = r.length := by
            rw [← List.length_append, List.takeWhile_append_dropWhile]
          have h4 := ih (r.dropWhile fun y => isTell y.op)
          unfold oneW
          split
          · simp [szW, e0]; omega
          · split
            · simp [szW, e0]; omega
            · split
              · simp [szW, e0]; omega
              · split
                · simp only [szW, List.length_map]; omega
                · simp only [szW, List.length_map, e0]; omega
        simp only [szL, List.length_cons]; omega
theorem someP_sz (l : List Ins) : szL (someP l).1 ≤ l.length := by have := someW_sz l.length l; unfold someP; omega
end Go.HL
/- Bounds: the laws BoundTells and BoundMore. -/
set_option linter.unusedVariables false
set_option linter.unusedSimpArgs false
set_option maxRecDepth 100000
set_option maxHeartbeats 1000000
namespace Go.HL
open Go.RowKit Go.Proofs

theorem wantD_get (w : Want) (j : Nat) : (wantD w)[j]? = [D.int .i64 w.kind, .str w.tag, .str w.key, .str w.text, .list (w.attrs.map attrD) .ro, .list (w.kids.map wantD) .ro][j]? := by rw [wantD_eq]
/-- The document's: the same, told alike. -/
theorem c_as : ∀ (m : Nat) (l : List Want) (t0 : Tok), szL l < m → szL l ≤ 1048576 → Ret Try.prog 16 [.list (l.map wantD) t0] (.list (l.map wantD) .ro) := by
  intro m
  induction m with
  | zero => intro l t0 h; omega
  | succ m ih =>
    intro l t0 hm hsz
    have hl := sz_len l
    refine RetL.ro (RetL.of fun σ => ?_)
    refine HCalls.start mixed false _ _ (fn := Try.f16) (by kernel_rfl) rfl (by kernel_rfl) rfl (by kernel_rfl) (by kernel_rfl) ?_
    simp (maxSteps := 2000000) +contextual [-decide_eq_true_eq, -decide_eq_false_iff_not]
    refine hloop_intro (fun n e s => ∃ (i : Nat) (tok : Tok) (out : List Want), i + n = l.length ∧ e 0 = .list (l.map wantD) t0 ∧ e 3 = .list (out.map wantD) tok ∧ e 4 = .int .i64 i ∧ Gr 6 σ (out.map wantD) tok s ∧ Sm (l.take i) out) l.length ?_ ?_
    · exact ⟨0, .nil, [], by simp, by simp, by simp, by simp, .nil, rfl⟩
    · rintro n e s ⟨i, tok, out, hi, e0, e3, e4, hg, ho⟩
      have ho : l.take i = out := ho
      have hol : out.length = i := by rw [← ho]; simp; omega
      by_cases h4 : i < l.length
      · obtain ⟨w, hw, hw2⟩ : ∃ w, l[i]? = some w ∧ l[i] = w := ⟨_, List.getElem?_eq_getElem h4, rfl⟩
        have hszw := sz_mem (List.mem_of_getElem? hw)
        have hsw := szW_eq w
        have hn := take_next hw
        simp (maxSteps := 2000000) +contextual [e0, e3, e4, h4, -decide_eq_true_eq, -decide_eq_false_iff_not]
        refine hdraw_cut 34 s (SLe.refl _) (by kernel_rfl) (by kernel_rfl) ?_
        simp (maxSteps := 2000000) +contextual [e0, e3, e4, wantD_length, wantD_eq w, h4, hw, hw2, -decide_eq_true_eq, -decide_eq_false_iff_not]
        refine ih w.kids .ro (by omega) (by omega) _ _ ?_
        simp (maxSteps := 2000000) +contextual [e0, e3, e4, wantD_length, wantD_eq w, h4, hw, hw2, -decide_eq_true_eq, -decide_eq_false_iff_not]
        refine ⟨fun _ => none, (fun _ _ h => by cases h), ?_⟩
        rw [← wantD_eq w]
        refine hg.appendT (SLe.refl s) [w] ?_ ?_ ?_ ?_ ?_
        · rfl
        · rfl
        · (try simp); omega
        · (try simp); omega
        intro out1 tok1 s1 s2 ho1 hs1 hk1 hg1
        simp (maxSteps := 2000000) +contextual [e0, e3, e4, -decide_eq_true_eq, -decide_eq_false_iff_not]
        refine ⟨by (intro xx oo hh; simp only [Store.set] at hh ⊢; grind), n - 1, by omega, s2, hs1, i + 1, by omega, tok1, out1, ⟨rfl, rfl⟩, by rw [wrap_i64] <;> omega, hg1, ?_⟩
        show l.take (i + 1) = out1
        rw [hn, ho1, ho]
      · simp (maxSteps := 2000000) +contextual [e0, e3, e4, h4, -decide_eq_true_eq, -decide_eq_false_iff_not]
        rw [List.take_of_length_le (by omega)] at ho
        exact ⟨hg.le, by rw [ho]⟩
end Go.HL
/- Programs that may be, as what they are made of. -/
set_option linter.unusedVariables false
set_option linter.unusedSimpArgs false
set_option maxRecDepth 100000
set_option maxHeartbeats 1000000
namespace Go.HL
open Go.RowKit Go.Proofs

def noTell (l : List Ins) : Prop := ∀ x r, l = x :: r → isTell x.op = false
inductive Blk : List Ins → List Want → Prop
  | nil : Blk [] []
  | text (x : Ins) (r : List Ins) (ws : List Want) (hm : mayIns x = true) (h : x.op = 4) (hr : noTell r) (b : Blk r ws) : Blk (x :: r) (.mk 2 ⟨#[]⟩ ⟨#[]⟩ x.a [] [] :: ws)
  | node (x : Ins) (r : List Ins) (ws : List Want) (hm : mayIns x = true) (h : x.op = 8) (hr : noTell r) (b : Blk r ws) : Blk (x :: r) (.mk 3 ⟨#[]⟩ ⟨#[]⟩ ⟨#[]⟩ [] [] :: ws)
  | all (x : Ins) (r : List Ins) (ws : List Want) (hm : mayIns x = true) (h : x.op = 7) (hr : noTell r) (b : Blk r ws) : Blk (x :: r) (.mk 4 ⟨#[]⟩ ⟨#[]⟩ ⟨#[]⟩ [] [] :: ws)
  | void (x : Ins) (ats r : List Ins) (ws : List Want) (hm : mayIns x = true) (h : x.op = 3) (ha : ∀ y ∈ ats, isTell y.op = true) (hr : noTell r) (b : Blk r ws) : Blk (x :: (ats ++ r)) (.mk 1 x.a x.b ⟨#[]⟩ (ats.map insA) [] :: ws)
  | elem (x : Ins) (ats body : List Ins) (c : Ins) (r : List Ins) (ks ws : List Want) (hm : mayIns x = true) (h : x.op = 1) (ha : ∀ y ∈ ats, isTell y.op = true) (hb : noTell body) (b1 : Blk body ks) (hc : c.op = 2) (hcm : mayIns c = true) (hr : noTell r) (b2 : Blk r ws) :
      Blk (x :: (ats ++ (body ++ c :: r))) (.mk 1 x.a x.b ⟨#[]⟩ (ats.map insA) ks :: ws)
/-- What the checker lets in, but for depth, keys and what keeps all. -/
def V : Nat → Int → List Ins → Prop
  | d, _, [] => d = 0
  | d, p, x :: r => mayIns x = true ∧ if isTell x.op then (isEl p || isTell p) = true ∧ V d x.op r else if x.op = 2 then 0 < d ∧ V (d - 1) x.op r else V (if x.op = 1 then d + 1 else d) x.op r
theorem runC_V : ∀ (l : List Ins) (C : Chk) (d : Nat), C.pls.length = d + 1 → (runC C l).1 = 0 → ((runC C l).2.pls.length = 1) → V d C.ahead l := by
  intro l
  induction l with
  | nil => intro C d h1 _ h2; simp only [runC] at h2; simp only [V]; omega
  | cons x r ih =>
    intro C d h1 h0 h2
    simp only [runC] at h0 h2
    by_cases h : (oneC C x).1 = 0
    · rw [if_pos h] at h0 h2
      simp only [V]
      unfold oneC at h h0 h2
      cases hm : mayIns x with
      | false => rw [hm] at h; simp at h
      | true =>
        simp only [hm, if_true] at h h0 h2
        refine ⟨rfl, ?_⟩
        cases ht : isTell x.op with
        | true =>
          simp only [ht, if_true] at h h0 h2 ⊢
          cases ha : attrC C x with
          | none => rw [ha] at h; simp at h
          | some C' =>
            rw [ha] at h0 h2
            have hel : (isEl C.ahead || isTell C.ahead) = true := by
              cases he : (isEl C.ahead || isTell C.ahead) with
              | true => rfl
              | false => simp [attrC, he] at ha
            have hp : C'.pls = C.pls := by
              unfold attrC at ha
              split at ha
              · cases ha
              · injection ha with ha; rw [← ha]
            exact ⟨hel, ih { C' with ahead := x.op } d (by simp [hp, h1]) h0 h2⟩
        | false =>
          simp only [ht, Bool.false_eq_true, if_false] at h h0 h2 ⊢
          by_cases h2' : x.op = 2
          · rw [if_pos h2'] at h h0 h2 ⊢
            by_cases h3 : C.pls.length = 1
            · rw [if_pos h3] at h; simp at h
            · rw [if_neg h3] at h0 h2
              exact ⟨by omega, ih _ (d - 1) (by simp; omega) h0 h2⟩
          · rw [if_neg h2'] at h h0 h2 ⊢
            unfold standsC at h h0 h2
            cases hg : C.pls.getLast? with
            | none => rw [List.getLast?_eq_none_iff] at hg; rw [hg] at h1; simp at h1
            | some t =>
              simp only [hg] at h h0 h2
              split at h
              · cases h
              · rename_i g1
                split at h
                · cases h
                · rename_i g2
                  split at h
                  · cases h
                  · rename_i g3
                    rw [if_neg g1, if_neg g2, if_neg g3] at h0 h2
                    refine ih _ _ ?_ h0 h2
                    by_cases ho : x.op = 1
                    · simp only [ho, if_true, List.length_append, List.length_dropLast, List.length_cons, List.length_nil]; omega
                    · simp only [if_neg ho, List.append_nil, List.length_append, List.length_dropLast, List.length_cons, List.length_nil]; omega
    · rw [if_neg h] at h0; exact absurd h0 h
theorem chk_V {l : List Ins} (h : chkP l = 0) : V 0 0 l ∧ l.length ≤ 120 := by
  unfold chkP at h
  split at h
  · cases h
  · split at h
    · rename_i h1 h2
      split at h
      · cases h
      · rename_i h3
        have hpos : 1 ≤ (runC chk0 l).2.pls.length := by
          have gen : ∀ (l : List Ins) (C : Chk), 1 ≤ C.pls.length → (runC C l).1 = 0 → 1 ≤ (runC C l).2.pls.length := by
            intro l
            induction l with
            | nil => intro C h _; exact h
            | cons x r ih =>
              intro C hC h0
              simp only [runC] at h0 ⊢
              by_cases h : (oneC C x).1 = 0
              · rw [if_pos h] at h0 ⊢
                refine ih _ ?_ h0
                show 1 ≤ (oneC C x).2.pls.length
                unfold oneC at h ⊢
                split
                · split
                  · rename_i hm ht
                    cases ha : attrC C x with
                    | none => exact hC
                    | some C' =>
                      have hp : C'.pls = C.pls := by
                        unfold attrC at ha
                        split at ha
                        · cases ha
                        · injection ha with ha; rw [← ha]
                      show 1 ≤ C'.pls.length
                      rw [hp]; exact hC
                  · split
                    · split
                      · exact hC
                      · simp; omega
                    · unfold standsC
                      split
                      · exact hC
                      · split
                        · exact hC
                        · split
                          · exact hC
                          · split
                            · exact hC
                            · simp only [List.length_append, List.length_dropLast, List.length_cons, List.length_nil]; omega
                · exact hC
              · rw [if_neg h] at h0; exact absurd h0 h
          exact gen l chk0 (by simp [chk0]) h2
        exact ⟨runC_V l chk0 0 (by simp [chk0]) h2 (by omega), by omega⟩
    · rename_i h2; exact absurd h h2

theorem V_tells : ∀ (r : List Ins) (d : Nat) (p : Int), V d p r → (isEl p || isTell p) = true → ∃ q, V d q (r.dropWhile fun y => isTell y.op) := by
  intro r
  induction r with
  | nil => intro d p h _; exact ⟨p, h⟩
  | cons x r ih =>
    intro d p h hp
    cases ht : isTell x.op with
    | true =>
      simp only [V, ht, if_true] at h
      have : (x :: r).dropWhile (fun y => isTell y.op) = r.dropWhile (fun y => isTell y.op) := by simp [ht]
      rw [this]
      exact ih d x.op h.2.2 (by simp [ht])
    | false =>
      have : (x :: r).dropWhile (fun y => isTell y.op) = x :: r := by simp [ht]
      rw [this]; exact ⟨p, h⟩
theorem noTell_drop (r : List Ins) : noTell (r.dropWhile fun y => isTell y.op) := by
  intro x q h
  induction r with
  | nil => simp at h
  | cons y r ih =>
    cases ht : isTell y.op with
    | true => simp only [List.dropWhile_cons, ht, if_true] at h; exact ih h
    | false => simp only [List.dropWhile_cons, ht, Bool.false_eq_true, if_false] at h; injection h with h1 h2; rw [← h1]; exact ht
theorem V_noTell {d : Nat} {p : Int} {r : List Ins} (h : V d p r) (hp : (isEl p || isTell p) = false) : noTell r := by
  intro x q hr
  subst hr
  cases ht : isTell x.op with
  | false => rfl
  | true => simp only [V, ht, if_true] at h; rw [hp] at h; cases h.2.1
theorem takeW_tell (r : List Ins) : ∀ y ∈ r.takeWhile (fun y => isTell y.op), isTell y.op = true := by
  intro y hy
  have : ∀ (r : List Ins), y ∈ r.takeWhile (fun y => isTell y.op) → isTell y.op = true := by
    intro r
    induction r with
    | nil => simp
    | cons x r ih =>
      intro h
      cases ht : isTell x.op with
      | true =>
        simp only [List.takeWhile_cons, ht, if_true] at h
        rcases List.mem_cons.1 h with rfl | h
        · exact ht
        · exact ih h
      | false => simp [List.takeWhile_cons, ht] at h
  exact this r hy
/-- What is let in is made of blocks: up to a Close, or the end. -/
theorem parse : ∀ (n : Nat) (l : List Ins) (d : Nat) (p : Int), l.length ≤ n → V d p l → noTell l →
    ∃ body rest, Blk body (someW n l).1 ∧ l = body ++ rest ∧ noTell rest ∧ ((rest = [] ∧ d = 0 ∧ (someW n l).2 = []) ∨ ∃ c r', rest = c :: r' ∧ c.op = 2 ∧ mayIns c = true ∧ 0 < d ∧ V (d - 1) 2 r' ∧ (someW n l).2 = r') := by
  intro n
  induction n with
  | zero =>
    intro l d p hn hV _
    have : l = [] := List.eq_nil_of_length_eq_zero (by omega)
    subst this
    exact ⟨[], [], .nil, rfl, fun x r h => by simp at h, .inl ⟨rfl, hV, rfl⟩⟩
  | succ n ih =>
    intro l d p hn hV hnt
    cases l with
    | nil => exact ⟨[], [], .nil, rfl, fun x r h => by simp at h, .inl ⟨rfl, hV, rfl⟩⟩
    | cons x r =>
      have hx := hnt x r rfl
      simp only [List.length_cons] at hn
      have hV0 := hV
      simp only [V, hx, Bool.false_eq_true, if_false] at hV
      obtain ⟨hm, hV⟩ := hV
      by_cases h2 : x.op = 2
      · rw [if_pos h2] at hV
        refine ⟨[], x :: r, ?_, rfl, hnt, .inr ⟨x, r, rfl, h2, hm, hV.1, ?_, ?_⟩⟩
        · simp only [someW, if_pos h2]; exact .nil
        · rw [← h2]; exact hV.2
        · simp only [someW, if_pos h2]
      · rw [if_neg h2] at hV
        obtain ⟨ho1, ho2⟩ : (1 ≤ x.op ∧ x.op ≤ 8) ∧ True := by
          refine ⟨?_, trivial⟩
          unfold mayIns at hm
          by_cases e1 : x.op = 1
          · omega
          · by_cases e3 : x.op = 3
            · omega
            · by_cases e4 : x.op = 4
              · omega
              · by_cases e5 : x.op = 5 ∨ x.op = 6
                · omega
                · by_cases e6 : x.op = 2 ∨ x.op = 7 ∨ x.op = 8
                  · omega
                  · simp [e1, e3, e4, e5, e6] at hm
        have ht56 : ¬ x.op = 5 ∧ ¬ x.op = 6 := by simp [isTell] at hx; exact hx
        -- the rest, once the first one is taken
        have go : ∀ (w : Want) (r2 : List Ins) (q : Int), oneW (someW n) x r = (w, r2) → r2.length ≤ n → V d q r2 → noTell r2 →
            (∀ body ws, Blk body ws → noTell body → ∀ rest, r2 = body ++ rest → ∃ b2, Blk b2 (w :: ws) ∧ x :: r = b2 ++ rest) →
            ∃ body rest, Blk body (someW (n + 1) (x :: r)).1 ∧ x :: r = body ++ rest ∧ noTell rest ∧ ((rest = [] ∧ d = 0 ∧ (someW (n + 1) (x :: r)).2 = []) ∨ ∃ c r', rest = c :: r' ∧ c.op = 2 ∧ mayIns c = true ∧ 0 < d ∧ V (d - 1) 2 r' ∧ (someW (n + 1) (x :: r)).2 = r') := by
          intro w r2 q ho hl hv hn2 hb
          obtain ⟨body, rest, b1, b2, b3, b4⟩ := ih r2 d q hl hv hn2
          have hnb : noTell body := by
            intro y z hy
            subst hy
            exact hn2 y (z ++ rest) (by rw [b2]; rfl)
          obtain ⟨bb, b5, b6⟩ := hb body _ b1 hnb rest b2
          refine ⟨bb, rest, ?_, b6, b3, ?_⟩
          · simp only [someW, if_neg h2, ho]; exact b5
          · simp only [someW, if_neg h2, ho]; exact b4
        by_cases h4 : x.op = 4
        · rw [if_neg (by omega)] at hV
          have hn2 := V_noTell hV (by rw [h4]; decide)
          exact go _ r x.op (by simp [oneW, h4]) (by omega) hV hn2 fun body ws b hnb rest he => ⟨x :: body, .text x body ws hm h4 hnb b, by rw [he]; rfl⟩
        · by_cases h8 : x.op = 8
          · rw [if_neg (by omega)] at hV
            have hn2 := V_noTell hV (by rw [h8]; decide)
            exact go _ r x.op (by simp [oneW, h8]) (by omega) hV hn2 fun body ws b hnb rest he => ⟨x :: body, .node x body ws hm h8 hnb b, by rw [he]; rfl⟩
          · by_cases h7 : x.op = 7
            · rw [if_neg (by omega)] at hV
              have hn2 := V_noTell hV (by rw [h7]; decide)
              exact go _ r x.op (by simp [oneW, h7]) (by omega) hV hn2 fun body ws b hnb rest he => ⟨x :: body, .all x body ws hm h7 hnb b, by rw [he]; rfl⟩
            · have hdl := dropW_le r fun y => isTell y.op
              have hsplit : r = r.takeWhile (fun y => isTell y.op) ++ r.dropWhile (fun y => isTell y.op) := List.takeWhile_append_dropWhile.symm
              have htk := takeW_tell r
              have hnd := noTell_drop r
              by_cases h1 : x.op = 1
              · rw [if_pos h1] at hV
                obtain ⟨q, hq⟩ := V_tells r (d + 1) x.op hV (by rw [h1]; decide)
                obtain ⟨body1, rest1, c1, c2, c3, c4⟩ := ih (r.dropWhile fun y => isTell y.op) (d + 1) q (by omega) hq hnd
                have hnb1 : noTell body1 := by
                  intro y z hy
                  subst hy
                  exact hnd y (z ++ rest1) (by rw [c2]; rfl)
                rcases c4 with ⟨_, h0, _⟩ | ⟨c, r', e1, e2, e2m, _, e3, e4⟩
                · omega
                · rw [Nat.add_sub_cancel] at e3
                  have hn2 := V_noTell e3 (by decide)
                  refine go _ r' 2 ?_ ?_ e3 hn2 fun body ws b hnb rest he => ⟨x :: (r.takeWhile (fun y => isTell y.op) ++ (body1 ++ c :: body)), .elem x _ body1 c body _ ws hm h1 htk hnb1 c1 e2 e2m hnb b, ?_⟩
                  · simp only [oneW, if_neg h4, if_neg h8, if_neg h7, if_pos h1, e4]
                  · have := congrArg List.length c2
                    rw [e1] at this
                    simp only [List.length_append, List.length_cons] at this
                    omega
                  · conv => lhs; rw [hsplit, c2, e1, he]
                    simp
              · rw [if_neg h1] at hV
                have h3 : x.op = 3 := by omega
                obtain ⟨q, hq⟩ := V_tells r d x.op hV (by rw [h3]; decide)
                refine go _ (r.dropWhile fun y => isTell y.op) q ?_ (by omega) hq hnd fun body ws b hnb rest he => ⟨x :: (r.takeWhile (fun y => isTell y.op) ++ body), .void x _ body ws hm h3 htk hnb b, ?_⟩
                · simp only [oneW, if_neg h4, if_neg h8, if_neg h7, if_neg h1]
                · conv => lhs; rw [hsplit, he]
                  simp
theorem blk_of {l : List Ins} (h : chkP l = 0) : Blk l (someP l).1 := by
  obtain ⟨hV, -⟩ := chk_V h
  obtain ⟨body, rest, b1, b2, b3, b4⟩ := parse l.length l 0 0 (Nat.le_refl _) hV (V_noTell hV (by decide))
  rcases b4 with ⟨e, _, _⟩ | ⟨c, r', _, _, _, h0, _⟩
  · subst e
    rw [List.append_nil] at b2
    have : someP l = someW l.length l := rfl
    rw [this]
    rw [← b2] at b1
    exact b1
  · omega
end Go.HL
