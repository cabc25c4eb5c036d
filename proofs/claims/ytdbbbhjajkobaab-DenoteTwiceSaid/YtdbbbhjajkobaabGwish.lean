/- What is wanted: what the program's layer 14 does. -/
import Derived.Test.YtdbbbhjajkobaabGvalid
set_option linter.unusedVariables false
set_option linter.unusedSimpArgs false
set_option maxRecDepth 100000
set_option maxHeartbeats 1000000
namespace Go.HL
open Go.RowKit Go.Proofs

inductive Want where
  | mk (kind : Int) (tag key text : ByteArray) (attrs : List Attr) (kids : List Want)
def Want.kind : Want → Int | .mk k _ _ _ _ _ => k
def Want.tag : Want → ByteArray | .mk _ t _ _ _ _ => t
def Want.key : Want → ByteArray | .mk _ _ k _ _ _ => k
def Want.text : Want → ByteArray | .mk _ _ _ t _ _ => t
def Want.attrs : Want → List Attr | .mk _ _ _ _ a _ => a
def Want.kids : Want → List Want | .mk _ _ _ _ _ k => k
mutual
def wantD : Want → List D
  | .mk k t ke te a ks => [.int .i64 k, .str t, .str ke, .str te, .list (a.map attrD) .ro, .list (wantsD ks) .ro]
def wantsD : List Want → List (List D)
  | [] => []
  | w :: r => wantD w :: wantsD r
end
/-- An equation that rewriting leaves alone. -/
def Sm {α : Type} (a b : α) : Prop := a = b
theorem wantsD_eq (l : List Want) : wantsD l = l.map wantD := by
  induction l with
  | nil => rfl
  | cons w r ih => simp [wantsD, ih]
theorem wantD_eq (w : Want) : wantD w = [.int .i64 w.kind, .str w.tag, .str w.key, .str w.text, .list (w.attrs.map attrD) .ro, .list (w.kids.map wantD) .ro] := by
  cases w; simp only [wantD, wantsD_eq, Want.kind, Want.tag, Want.key, Want.text, Want.attrs, Want.kids]
theorem wantD_length (w : Want) : (wantD w).length = 6 := by rw [wantD_eq]; rfl
@[simp] theorem wantD_take (w : Want) : List.take 6 (wantD w) = wantD w := List.take_of_length_le (by rw [wantD_length]; omega)

def insA (x : Ins) : Attr := ⟨x.a, x.b, decide (x.op = 6)⟩
/-- What is wanted first, and what stands behind. -/
def oneW (sub : List Ins → List Want × List Ins) (x : Ins) (r : List Ins) : Want × List Ins :=
  if x.op = 4 then (.mk 2 ⟨#[]⟩ ⟨#[]⟩ x.a [] [], r)
  else if x.op = 8 then (.mk 3 ⟨#[]⟩ ⟨#[]⟩ ⟨#[]⟩ [] [], r)
  else if x.op = 7 then (.mk 4 ⟨#[]⟩ ⟨#[]⟩ ⟨#[]⟩ [] [], r)
  else if x.op = 1 then (.mk 1 x.a x.b ⟨#[]⟩ ((r.takeWhile fun y => isTell y.op).map insA) (sub (r.dropWhile fun y => isTell y.op)).1, (sub (r.dropWhile fun y => isTell y.op)).2)
  else (.mk 1 x.a x.b ⟨#[]⟩ ((r.takeWhile fun y => isTell y.op).map insA) [], r.dropWhile fun y => isTell y.op)
def someW : Nat → List Ins → List Want × List Ins
  | 0, l => ([], l.tail)
  | n + 1, [] => ([], [])
  | n + 1, x :: r => if x.op = 2 then ([], r) else ((oneW (someW n) x r).1 :: (someW n (oneW (someW n) x r).2).1, (someW n (oneW (someW n) x r).2).2)
theorem dropW_le (r : List Ins) (p : Ins → Bool) : (r.dropWhile p).length ≤ r.length := (List.dropWhile_sublist p).length_le
theorem someW_le : ∀ (n : Nat) (l : List Ins), (someW n l).2.length ≤ l.length := by
  intro n
  induction n with
  | zero => intro l; simp [someW]
  | succ n ih =>
    intro l
    cases l with
    | nil => simp [someW]
    | cons x r =>
      simp only [someW]
      split
      · simp
      · have h1 := ih (oneW (someW n) x r).2
        have h2 : (oneW (someW n) x r).2.length ≤ r.length := by
          have h3 := dropW_le r fun y => isTell y.op
          have h4 := ih (r.dropWhile fun y => isTell y.op)
          unfold oneW
          split
          · exact Nat.le_refl _
          · split
            · exact Nat.le_refl _
            · split
              · exact Nat.le_refl _
              · split
                · simp only; omega
                · exact h3
        simp only [List.length_cons]; omega
theorem oneW_le (n : Nat) (x : Ins) (r : List Ins) : (oneW (someW n) x r).2.length ≤ r.length := by
  have h3 := dropW_le r fun y => isTell y.op
  have h4 := someW_le n (r.dropWhile fun y => isTell y.op)
  unfold oneW
  split
  · exact Nat.le_refl _
  · split
    · exact Nat.le_refl _
    · split
      · exact Nat.le_refl _
      · split
        · simp only; omega
        · exact h3
theorem suf_one {sub : List Ins → List Want × List Ins} (h : ∀ l, (sub l).2 <:+ l) (x : Ins) (r : List Ins) : (oneW sub x r).2 <:+ r := by
  have h3 : r.dropWhile (fun y => isTell y.op) <:+ r := List.dropWhile_suffix _
  unfold oneW
  split
  · exact List.suffix_refl _
  · split
    · exact List.suffix_refl _
    · split
      · exact List.suffix_refl _
      · split
        · exact (h _).trans h3
        · exact h3
theorem suf_some : ∀ (n : Nat) (l : List Ins), (someW n l).2 <:+ l := by
  intro n
  induction n with
  | zero => intro l; exact List.tail_suffix l
  | succ n ih =>
    intro l
    cases l with
    | nil => exact List.suffix_refl _
    | cons x r =>
      simp only [someW]
      split
      · exact List.suffix_cons x r
      · exact ((ih _).trans (suf_one ih x r)).trans (List.suffix_cons x r)
theorem someW_fuel : ∀ (n m : Nat) (l : List Ins), l.length ≤ n → l.length ≤ m → someW n l = someW m l := by
  intro n
  induction n with
  | zero =>
    intro m l h1 h2
    have : l = [] := List.eq_nil_of_length_eq_zero (by omega)
    subst this
    cases m <;> rfl
  | succ n ih =>
    intro m l h1 h2
    cases l with
    | nil => cases m <;> rfl
    | cons x r =>
      cases m with
      | zero => simp at h2
      | succ m =>
        simp only [List.length_cons] at h1 h2
        have e : oneW (someW n) x r = oneW (someW m) x r := by
          have h3 := dropW_le r fun y => isTell y.op
          unfold oneW
          rw [ih m (r.dropWhile fun y => isTell y.op) (by omega) (by omega)]
        have h5 := oneW_le m x r
        simp only [someW, e]
        rw [ih m (oneW (someW m) x r).2 (by omega) (by omega)]
def someP (l : List Ins) : List Want × List Ins := someW l.length l

def someD (l : List Ins) : D := .tup [.list ((someP l).1.map wantD) .ro, .list ((someP l).2.map insD) .ro]
def oneP2 (x : Ins) (r : List Ins) : Want × List Ins := oneW someP x r
def wone (x : Ins) (r : List Ins) : D := .tup [.agg (wantD (oneP2 x r).1), .list ((oneP2 x r).2.map insD) .ro]
theorem FitL.sub {l m : List Ins} (h : FitL l) (hs : m.Sublist l) : FitL m := ⟨by have := hs.length_le; have := h.1; omega, fun x hx => h.2 x (hs.subset hx)⟩
theorem c_wone (x : Ins) (r : List Ins) (t0 : Tok) (hl : FitL (x :: r)) (sub : ∀ (l : List Ins) (t : Tok), l.length ≤ r.length → FitL l → Ret Try.prog 114 [.list (l.map insD) t] (someD l)) :
    Ret Try.prog 140 [.list ((x :: r).map insD) t0] (wone x r) := by
  refine Ret.weak fun σ => ?_
  refine HCalls.start mixed false _ _ (fn := Try.f140) (by kernel_rfl) rfl (by kernel_rfl) rfl (by kernel_rfl) (by kernel_rfl) ?_
  have hl1 := hl.1
  simp only [List.length_cons] at hl1
  have etake : List.take r.length (r.map insD) = r.map insD := List.take_of_length_le (by simp)
  simp (maxSteps := 2000000) +contextual [insD_length, -decide_eq_true_eq, -decide_eq_false_iff_not]
  intro b2 hb2
  refine hdraw_intro (by kernel_rfl) ?_
  simp (maxSteps := 2000000) +contextual [insD_length, insD_def, etake, -decide_eq_true_eq, -decide_eq_false_iff_not]
  refine ⟨by omega, fun b n1 hb => ?_⟩
  have hS : SLe σ ((σ.set b2 (.cells [.int .i64 0, .str ⟨#[]⟩, .str ⟨#[]⟩, .str ⟨#[]⟩, .list [] .nil, .list [] .nil])).set b (.cells [.int .i64 x.op, .str x.a, .str x.b])) := by (intro xx oo hh; simp only [Store.set] at hh ⊢; grind)
  have wk : ∀ (k : Int) (t ke te : ByteArray) (a : List Attr) (ks : List Want) (t1 t2 : Tok), Wk (.agg [.int .i64 k, .str t, .str ke, .str te, .list (a.map attrD) t1, .list (ks.map wantD) t2]) (.agg (wantD (.mk k t ke te a ks))) := by
    intro k t ke te a ks t1 t2
    rw [wantD_eq]
    refine .agg _ _ rfl fun i d d' h1 h2 => ?_
    match i with
    | 0 => simp at h1 h2; subst h1 h2; exact .refl _
    | 1 => simp at h1 h2; subst h1 h2; exact .refl _
    | 2 => simp at h1 h2; subst h1 h2; exact .refl _
    | 3 => simp at h1 h2; subst h1 h2; exact .refl _
    | 4 => simp at h1 h2; subst h1 h2; exact .list _ _
    | 5 => simp at h1 h2; subst h1 h2; exact .list _ _
    | n + 6 => simp at h1
  refine ⟨fun h4 => ⟨by (intro xx oo hh; simp only [Store.set] at hh ⊢; grind), ?_⟩, fun h4 => ⟨fun h8 => ⟨by (intro xx oo hh; simp only [Store.set] at hh ⊢; grind), ?_⟩, fun h8 => ⟨fun h7 => ⟨by (intro xx oo hh; simp only [Store.set] at hh ⊢; grind), ?_⟩, fun h7 b5 n5 n52 hb5 => ?_⟩⟩⟩
  · have ho : oneP2 x r = (.mk 2 ⟨#[]⟩ ⟨#[]⟩ x.a [] [], r) := by simp [oneP2, oneW, dec_t h4]
    unfold wone
    rw [ho]
    exact Wk.two (wk 2 ⟨#[]⟩ ⟨#[]⟩ x.a [] [] .nil .nil) (.refl _)
  · have ho : oneP2 x r = (.mk 3 ⟨#[]⟩ ⟨#[]⟩ ⟨#[]⟩ [] [], r) := by simp [oneP2, oneW, dec_t h8]
    unfold wone
    rw [ho]
    exact Wk.two (wk 3 ⟨#[]⟩ ⟨#[]⟩ ⟨#[]⟩ [] [] .nil .nil) (.refl _)
  · have ho : oneP2 x r = (.mk 4 ⟨#[]⟩ ⟨#[]⟩ ⟨#[]⟩ [] [], r) := by simp [oneP2, oneW, dec_t h7]
    unfold wone
    rw [ho]
    exact Wk.two (wk 4 ⟨#[]⟩ ⟨#[]⟩ ⟨#[]⟩ [] [] .nil .nil) (.refl _)
  · have h4 := dec_f h4
    have h8 := dec_f h8
    have h7 := dec_f h7
    let tl : Ins → Bool := fun y => isTell y.op
    refine hloop_intro (fun n e s => ∃ (rest pre : List Ins) (ats : List Attr) (tok : Tok) (s3 : Store), rest.length ≤ n ∧ r = pre ++ rest ∧ Front tl pre pre.length ∧ Sm (pre.map insA) ats ∧ e 0 = .list (rest.map insD) .ro ∧ e 2 = .ptr b2 0 ∧ e 4 = .ptr b 0 ∧ e 5 = .ptr b5 0 ∧
      s b2 = some (.cells [.int .i64 0, .str ⟨#[]⟩, .str ⟨#[]⟩, .str ⟨#[]⟩, .list [] .nil, .list [] .nil]) ∧ s b = some (.cells [.int .i64 x.op, .str x.a, .str x.b]) ∧ s b5 = some (.cells [.int .i64 1, .str x.a, .str x.b, .str ⟨#[]⟩, .list (ats.map attrD) tok, .list [] .nil]) ∧
      Gr 3 σ (ats.map attrD) tok s3 ∧ SLe s3 s) r.length ?_ ?_
    · refine ⟨r, [], [], .nil, σ, Nat.le_refl _, rfl, Front.zero _ _, rfl, ?_⟩
      have n1' : ¬ b2 = b := fun e => n1 e.symm
      have n5' : ¬ b = b5 := fun e => n5 e.symm
      have n52' : ¬ b2 = b5 := fun e => n52 e.symm
      simp (maxSteps := 2000000) +contextual [n1, n1', n5, n5', n52, n52', -decide_eq_true_eq, -decide_eq_false_iff_not]
      exact ⟨.nil, by (intro xx oo hh; simp only [Store.set] at hh ⊢; grind)⟩
    · rintro n e s ⟨rest, pre, ats, tok, s3, hn, hpre, hfr, has, e0, e2, e4, e5, hs2, hs, hs5, hg, hs3⟩
      have has : pre.map insA = ats := has
      have hal : ats.length = pre.length := by rw [← has]; simp
      have hrl : r.length = pre.length + rest.length := by rw [hpre]; simp
      have htw : ∀ (y : Ins) (q : List Ins), rest = y :: q → isTell y.op = false → r.takeWhile tl = pre ∧ r.dropWhile tl = rest := by
        intro y q hq hy
        have hall : ∀ z ∈ pre, tl z = true := List.all_eq_true.1 (hfr.all (Nat.le_refl _))
        rw [hpre, hq]
        exact ⟨by rw [List.takeWhile_append_of_pos hall]; simp [tl, hy], by rw [List.dropWhile_append_of_pos hall]; simp [tl, hy]⟩
      have htw0 : rest = [] → r.takeWhile tl = pre ∧ r.dropWhile tl = rest := by
        intro hq
        have hall : ∀ z ∈ pre, tl z = true := List.all_eq_true.1 (hfr.all (Nat.le_refl _))
        rw [hpre, hq]
        exact ⟨by rw [List.takeWhile_append_of_pos hall]; simp, by rw [List.dropWhile_append_of_pos hall]; simp⟩
      have hcase : (∃ y q, rest = y :: q ∧ isTell y.op = true) ∨ (rest = [] ∨ ∃ y q, rest = y :: q ∧ isTell y.op = false) := by
        cases rest with
        | nil => exact .inr (.inl rfl)
        | cons y q => cases h : isTell y.op with
          | true => exact .inl ⟨y, q, rfl, h⟩
          | false => exact .inr (.inr ⟨y, q, rfl, h⟩)
      rcases hcase with ⟨y, q, rfl, hy⟩ | hcase
      · have hpos : 0 < (q.length : Int) + 1 := by omega
        simp only [List.length_cons] at hrl hn
        simp (maxSteps := 2000000) +contextual [e0, e2, e4, e5, hs2, hs, hs5, insD_length, insD_def, hpos, -decide_eq_true_eq, -decide_eq_false_iff_not]
        refine c_tells _ _ _ ?_
        rw [show (decide (y.op = 5) || decide (y.op = 6)) = true from hy]
        simp (maxSteps := 2000000) +contextual [e0, e2, e4, e5, hs2, hs, hs5, insD_length, insD_def, hpos, -decide_eq_true_eq, -decide_eq_false_iff_not]
        refine hdraw_cut 17 _ (SLe.refl _) (by kernel_rfl) (by kernel_rfl) ?_
        simp (maxSteps := 2000000) +contextual [e0, e2, e4, e5, hs2, hs, hs5, insD_length, insD_def, hpos, attrD_length, -decide_eq_true_eq, -decide_eq_false_iff_not]
        refine ⟨fun _ => none, (fun _ _ h => by cases h), ?_⟩
        refine hg.appendT hs3 [insA y] ?_ ?_ ?_ ?_ ?_
        · rfl
        · rfl
        · (try simp); omega
        · (try simp); omega
        intro ats1 tok1 s1 s4 ho1 hs1 hk1 hg1
        have k2 := hk1.cells hs2
        have k1 := hk1.cells hs
        have k5 := hk1.cells hs5
        have ne25 : b2 ≠ b5 := fun e => n52 e.symm
        have ne15 : b ≠ b5 := fun e => n5 e.symm
        have ne21 : b2 ≠ b := fun e => n1 e.symm
        have hoff := hg1.off hs1 hb5 k5
        have etq : List.take q.length (q.map insD) = q.map insD := List.take_of_length_le (by simp)
        simp (maxSteps := 2000000) +contextual [e0, e2, e4, e5, hs2, hs, hs5, insD_length, insD_def, hpos, k5, etq, -decide_eq_true_eq, -decide_eq_false_iff_not]
        refine ⟨by (intro xx oo hh; simp only [Store.set] at hh ⊢; grind), by (intro xx oo hh; simp only [Store.set] at hh ⊢; grind), by omega, n - 1, by omega, _, SLe.refl _, q, by omega, ?_⟩
        refine ⟨pre ++ [y], by rw [hpre]; simp, ?_, ats1, ?_, rfl, ?_, ?_, tok1, ?_, s4, hg1, hs1.put hoff _⟩
        · unfold Front at hfr ⊢
          rw [List.take_length] at hfr ⊢
          rw [List.all_append, hfr]; simp [tl, hy]
        · show (pre ++ [y]).map insA = ats1
          rw [ho1, ← has]; simp
        · rw [Store.set_ne _ _ _ _ ne25]; exact k2
        · rw [Store.set_ne _ _ _ _ ne15]; exact k1
        · rw [Store.set_same]
      · have hT : r.takeWhile tl = pre ∧ r.dropWhile tl = rest := by
          rcases hcase with h | ⟨y, q, h, hy⟩
          · exact htw0 h
          · exact htw y q h hy
        have hele : ∀ (ks : List Want), oneW someP x r = if x.op = 1 then (.mk 1 x.a x.b ⟨#[]⟩ ats (someP rest).1, (someP rest).2) else (.mk 1 x.a x.b ⟨#[]⟩ ats [], rest) := fun _ => by
          unfold oneW
          rw [if_neg h4, if_neg h8, if_neg h7, hT.1, hT.2, has]
        have ho := hele []
        have ne25 : b2 ≠ b5 := fun e => n52 e.symm
        have ne15 : b ≠ b5 := fun e => n5 e.symm
        have ne21 : b2 ≠ b := fun e => n1 e.symm
        have hfrest : FitL rest := hl.sub (by rw [hpre]; exact ((List.sublist_append_right pre rest).trans (List.sublist_cons_self x _)))
        have hleS := hg.le.trans hs3
        rcases hcase with rfl | ⟨y, q, rfl, hy⟩
        focus
          by_cases h1 : x.op = 1
          focus
            simp (maxSteps := 2000000) +contextual [e0, e2, e4, e5, hs2, hs, hs5, insD_length, insD_def, h1, -decide_eq_true_eq, -decide_eq_false_iff_not]
          rotate_left
          focus
            simp (maxSteps := 2000000) +contextual [e0, e2, e4, e5, hs2, hs, hs5, insD_length, insD_def, h1, -decide_eq_true_eq, -decide_eq_false_iff_not]
        rotate_left
        rotate_left
        focus
          have hpos : 0 < (q.length : Int) + 1 := by omega
          simp (maxSteps := 2000000) +contextual [e0, e2, e4, e5, hs2, hs, hs5, insD_length, insD_def, hpos, -decide_eq_true_eq, -decide_eq_false_iff_not]
          refine c_tells _ _ _ ?_
          rw [show (decide (y.op = 5) || decide (y.op = 6)) = false from hy]
          by_cases h1 : x.op = 1
          focus
            simp (maxSteps := 2000000) +contextual [e0, e2, e4, e5, hs2, hs, hs5, insD_length, insD_def, hpos, h1, -decide_eq_true_eq, -decide_eq_false_iff_not]
          rotate_left
          focus
            simp (maxSteps := 2000000) +contextual [e0, e2, e4, e5, hs2, hs, hs5, insD_length, insD_def, hpos, h1, -decide_eq_true_eq, -decide_eq_false_iff_not]
        all_goals first
          | (refine ⟨hleS.put hb2 _, ?_⟩
             unfold wone oneP2
             rw [ho, if_neg h1]
             exact Wk.two (wk 1 _ _ _ ats [] tok .nil) (.refl _))
          | (refine sub _ .ro (by first | exact Nat.zero_le _ | (simp only [List.length_cons] at hrl ⊢; omega)) hfrest _ _ ?_
             unfold someD
             rw [if_pos h1] at ho
             simp (maxSteps := 2000000) +contextual [e0, e2, e4, e5, hs2, hs, hs5, insD_length, insD_def, ne25, -decide_eq_true_eq, -decide_eq_false_iff_not]
             refine ⟨(hleS.put hb5 _).put hb2 _, ?_⟩
             unfold wone oneP2
             rw [ho]
             exact Wk.two (wk 1 _ _ _ ats _ tok .ro) (.refl _))
theorem c_wsome_of (l : List Ins) (t0 : Tok) (hl : FitL l) (one : ∀ (x : Ins) (r : List Ins) (t : Tok), (x :: r).length ≤ l.length → FitL (x :: r) → Ret Try.prog 140 [.list ((x :: r).map insD) t] (wone x r)) :
    Ret Try.prog 114 [.list (l.map insD) t0] (someD l) := by
  refine Ret.weak fun σ => ?_
  refine HCalls.start mixed false _ _ (fn := Try.f114) (by kernel_rfl) rfl (by kernel_rfl) rfl (by kernel_rfl) (by kernel_rfl) ?_
  have hl1 := hl.1
  simp (maxSteps := 2000000) +contextual [-decide_eq_true_eq, -decide_eq_false_iff_not]
  refine hloop_intro (fun n e s => ∃ (rest : List Ins) (out : List Want) (t1 tok : Tok) (s3 : Store), rest.length ≤ n ∧ rest.length + out.length ≤ l.length ∧ FitL rest ∧ e 0 = .list (rest.map insD) t1 ∧ e 4 = .list (out.map wantD) tok ∧ Gr 6 σ (out.map wantD) tok s3 ∧ SLe s3 s ∧ Sm (someP l) (out ++ (someP rest).1, (someP rest).2)) l.length ?_ ?_
  · refine ⟨l, [], t0, .nil, σ, Nat.le_refl _, by simp, hl, ?_⟩
    simp (maxSteps := 2000000) +contextual [-decide_eq_true_eq, -decide_eq_false_iff_not]
    exact ⟨.nil, rfl⟩
  · rintro n e s ⟨rest, out, t1, tok, s3, hn, hlen, hfr, e0, e4, hg, hs3, hsm⟩
    have hsm : someP l = (out ++ (someP rest).1, (someP rest).2) := hsm
    have hcase : (∃ x r, rest = x :: r ∧ ¬ x.op = 2) ∨ (rest = [] ∨ ∃ x r, rest = x :: r ∧ x.op = 2) := by
      cases rest with
      | nil => exact .inr (.inl rfl)
      | cons x r => by_cases h : x.op = 2
                    · exact .inr (.inr ⟨x, r, rfl, h⟩)
                    · exact .inl ⟨x, r, rfl, h⟩
    rcases hcase with ⟨x, r, rfl, h2⟩ | hcase
    · have hpos : 0 < (r.length : Int) + 1 := by omega
      simp (maxSteps := 2000000) +contextual [e0, e4, insD_length, insD_def, hpos, h2, -decide_eq_true_eq, -decide_eq_false_iff_not]
      intro b hb
      refine one x r t1 (by simp only [List.length_cons] at hlen ⊢; omega) hfr _ _ ?_
      have hx1 := oneW_le r.length x r
      have ho2 : oneP2 x r = oneW (someW r.length) x r := by
        have h3 := dropW_le r fun y => isTell y.op
        unfold oneP2 oneW someP
        rw [someW_fuel (r.dropWhile fun y => isTell y.op).length r.length _ (Nat.le_refl _) h3]
      have hsn : someP (x :: r) = ((oneP2 x r).1 :: (someP (oneP2 x r).2).1, (someP (oneP2 x r).2).2) := by
        have h5 := oneW_le r.length x r
        have : someP (oneP2 x r).2 = someW r.length (oneP2 x r).2 := by
          unfold someP
          exact someW_fuel _ _ _ (Nat.le_refl _) (by rw [ho2]; exact h5)
        rw [this, ho2]
        show someW (r.length + 1) (x :: r) = _
        simp only [someW, if_neg h2]
      have hsuf : (oneP2 x r).2 <:+ r := suf_one (fun l => suf_some _ l) x r
      unfold wone
      rw [← ho2] at hx1
      generalize oneP2 x r = p at *
      obtain ⟨w, r2⟩ := p
      simp only [List.length_cons] at hlen hn hx1
      have hfr2 : FitL r2 := hfr.sub (hsuf.sublist.trans (List.sublist_cons_self x r))
      simp (maxSteps := 2000000) +contextual [e0, e4, hpos, wantD_length, -decide_eq_true_eq, -decide_eq_false_iff_not]
      refine hg.appendT (hs3.trans ((SLe.refl s).set hb _)) [w] ?_ ?_ ?_ ?_ ?_
      · rfl
      · rfl
      · (try simp); omega
      · (try simp); omega
      intro out1 tok1 s1 s2 ho1 hs1 hk1 hg1
      simp (maxSteps := 2000000) +contextual [e0, e4, -decide_eq_true_eq, -decide_eq_false_iff_not]
      refine ⟨n - 1, by omega, s1, SLe.refl _, r2, by omega, out1, by rw [ho1]; simp; omega, hfr2, rfl, tok1, ⟨rfl, rfl⟩, s2, hg1, hs1, ?_⟩
      show someP l = _
      rw [hsm, hsn, ho1]
      simp
    · have hse : (someP rest).1 = [] ∧ (someP rest).2 = rest.tail := by
        rcases hcase with rfl | ⟨x, r, rfl, h2⟩
        · exact ⟨rfl, rfl⟩
        · show (someW (r.length + 1) (x :: r)).1 = [] ∧ (someW (r.length + 1) (x :: r)).2 = r
          simp [someW, h2]
      have hD : ∀ tok, Wk (.tup [.list (out.map wantD) tok, .list (rest.tail.map insD) .ro]) (someD l) := fun tok => by
        unfold someD
        rw [hsm, hse.1, hse.2, List.append_nil]
        exact Wk.two (.list _ _) (.refl _)
      rcases hcase with rfl | ⟨x, r, rfl, h2⟩
      · simp (maxSteps := 2000000) +contextual [e0, e4, -decide_eq_true_eq, -decide_eq_false_iff_not]
        refine hdraw_intro (by kernel_rfl) ?_
        simp (maxSteps := 2000000) +contextual [e0, e4, -decide_eq_true_eq, -decide_eq_false_iff_not]
        exact ⟨hg.le.trans hs3, hD tok⟩
      · have hpos : 0 < (r.length : Int) + 1 := by omega
        simp (maxSteps := 2000000) +contextual [e0, e4, insD_length, insD_def, hpos, h2, -decide_eq_true_eq, -decide_eq_false_iff_not]
        refine hdraw_intro (by kernel_rfl) ?_
        have hmin : (if (1 : Int) < (r.length : Int) + 1 then (1 : Int) else (r.length : Int) + 1) = 1 := by split <;> omega
        have etake : List.take r.length (r.map insD) = r.map insD := List.take_of_length_le (by simp)
        simp (maxSteps := 2000000) +contextual [e0, e4, hpos, hmin, etake, insD_length, -decide_eq_true_eq, -decide_eq_false_iff_not]
        exact ⟨by omega, hg.le.trans hs3, hD tok⟩
theorem c_wsome : ∀ (n : Nat) (l : List Ins) (t0 : Tok), l.length ≤ n → FitL l → Ret Try.prog 114 [.list (l.map insD) t0] (someD l) := by
  intro n
  induction n with
  | zero =>
    intro l t0 hn hl
    refine c_wsome_of l t0 hl fun x r t h1 h2 => ?_
    simp only [List.length_cons] at h1; omega
  | succ n ih =>
    intro l t0 hn hl
    refine c_wsome_of l t0 hl fun x r t h1 h2 => c_wone x r t h2 fun l' t' h3 h4 => ih l' t' ?_ h4
    simp only [List.length_cons] at h1; omega

def ofD (l : List Ins) : D := if chkP l = 0 then .tup [.list ((someP l).1.map wantD) .ro, .lit .nilIface] else .tup [.list [] .nil, errD (chkP l)]
theorem c_wof (l : List Ins) (t0 : Tok) (hl : FitL l) : Ret Try.prog 65 [.list (l.map insD) t0] (ofD l) := by
  refine Ret.of fun σ => ?_
  refine HCalls.start mixed false _ _ (fn := Try.f65) (by kernel_rfl) rfl (by kernel_rfl) rfl (by kernel_rfl) (by kernel_rfl) ?_
  simp (maxSteps := 2000000) +contextual [-decide_eq_true_eq, -decide_eq_false_iff_not]
  refine c_check l t0 hl _ _ ?_
  by_cases h : chkP l = 0
  · simp (maxSteps := 2000000) +contextual [h, ofD, -decide_eq_true_eq, -decide_eq_false_iff_not]
    refine c_wsome l.length l t0 (Nat.le_refl _) hl _ _ ?_
    simp (maxSteps := 2000000) +contextual [someD, ofD, h, -decide_eq_true_eq, -decide_eq_false_iff_not]
  · have he : errD (chkP l) = .lit (.iface 62 (.int .i64 (chkP l))) := by simp [errD, h]
    unfold ofD
    rw [if_neg h, he]
    simp (maxSteps := 2000000) +contextual [-decide_eq_true_eq, -decide_eq_false_iff_not]

mutual
def cntW : Want → Nat
  | .mk k _ _ _ _ ks => if k = 1 then 1 + cntL ks else if k = 2 then 1 else 0
def cntL : List Want → Nat
  | [] => 0
  | w :: r => cntW w + cntL r
end
theorem cntL_append (a b : List Want) : cntL (a ++ b) = cntL a + cntL b := by
  induction a with
  | nil => simp [cntL]
  | cons w a ih => simp only [List.cons_append, cntL, ih]; omega
theorem cntW_eq (w : Want) : cntW w = if w.kind = 1 then 1 + cntL w.kids else if w.kind = 2 then 1 else 0 := by cases w; rfl
theorem cnt_mem {w : Want} {l : List Want} (h : w ∈ l) : cntW w ≤ cntL l := by
  induction l with
  | nil => simp at h
  | cons x r ih =>
    simp only [cntL]
    rcases List.mem_cons.1 h with rfl | h
    · omega
    · have := ih h; omega

mutual
/-- How many nodes and attributes there are. -/
def szW : Want → Nat
  | .mk _ _ _ _ a ks => 1 + a.length + szL ks
def szL : List Want → Nat
  | [] => 0
  | w :: r => szW w + szL r
end
theorem szL_append (a b : List Want) : szL (a ++ b) = szL a + szL b := by
  induction a with
  | nil => simp [szL]
  | cons w a ih => simp only [List.cons_append, szL, ih]; omega
theorem szW_eq (w : Want) : szW w = 1 + w.attrs.length + szL w.kids := by cases w; rfl
theorem sz_mem {w : Want} {l : List Want} (h : w ∈ l) : szW w ≤ szL l := by
  induction l with
  | nil => simp at h
  | cons x r ih =>
    simp only [szL]
    rcases List.mem_cons.1 h with rfl | h
    · omega
    · have := ih h; omega
theorem sz_len (l : List Want) : l.length ≤ szL l := by
  induction l with
  | nil => simp
  | cons w r ih => simp only [List.length_cons, szL, szW_eq]; omega
theorem cnt_sz : ∀ (m : Nat) (l : List Want), szL l < m → cntL l ≤ szL l := by
  intro m
  induction m with
  | zero => intro l h; omega
  | succ m ih =>
    intro l
    induction l with
    | nil => intro _; simp [cntL]
    | cons w r ih2 =>
      intro h
      simp only [szL] at h
      have h1 := ih2 (by omega)
      have h2 := szW_eq w
      have h3 := ih w.kids (by omega)
      simp only [cntL, szL, cntW_eq]
      split
      · omega
      · split <;> omega
/-- What a program wants is no more than it has instructions. -/
theorem someW_sz : ∀ (n : Nat) (l : List Ins), szL (someW n l).1 + (someW n l).2.length ≤ l.length := by
  intro n
  induction n with
  | zero => intro l; simp [someW, szL]
  | succ n ih =>
    intro l
    cases l with
    | nil => simp [someW, szL]
    | cons x r =>
      simp only [someW]
      split
      · simp [szL]
      · have h1 := ih (oneW (someW n) x r).2
        have h2 : szW (oneW (someW n) x r).1 + (oneW (someW n) x r).2.length ≤ r.length + 1 := by
          have e0 : szL [] = 0 := by simp [szL]
          have h3 : (r.takeWhile fun y => isTell y.op).length + (r.dropWhile fun y => isTell y.op).length = r.length := by
            rw [← List.length_append, List.takeWhile_append_dropWhile]
          have h4 := ih (r.dropWhile fun y => isTell y.op)
          unfold oneW
          split
          · simp [szW, e0]; omega
          · split
            · simp [szW, e0]; omega
            · split
              · simp [szW, e0]; omega
              · split
                · simp only [szW, List.length_map]; omega
                · simp only [szW, List.length_map, e0]; omega
        simp only [szL, List.length_cons]; omega
theorem someP_sz (l : List Ins) : szL (someP l).1 ≤ l.length := by have := someW_sz l.length l; unfold someP; omega
end Go.HL
