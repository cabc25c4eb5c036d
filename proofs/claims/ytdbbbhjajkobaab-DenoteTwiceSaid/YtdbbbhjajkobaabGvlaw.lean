/- Programs that may be: both answers are one; the law ValidTells. -/
import Derived.Test.YtdbbbhjajkobaabGvref
import Derived.Test.YtdbbbhjajkobaabGlawk
set_option linter.unusedVariables false
set_option linter.unusedSimpArgs false
set_option maxRecDepth 100000
set_option maxHeartbeats 1000000
namespace Go.HL
open Go.RowKit Go.Proofs

def Good (es : IM) (N : Int) : Prop := ∀ p ∈ es, 1 ≤ p.2 ∧ p.2 ≤ N
theorem Good.mono {es : IM} {N N' : Int} (h : Good es N) (hn : N ≤ N') : Good es N' := fun p hp => by have := h p hp; omega
theorem icnt_range {es : IM} {N : Int} (h : Good es N) (h0 : 0 ≤ N) (s : ByteArray) : 0 ≤ icnt s es ∧ icnt s es ≤ N := by
  induction es with
  | nil => exact ⟨Int.le_refl 0, h0⟩
  | cons p r ih =>
    obtain ⟨k, v⟩ := p
    simp only [icnt]
    split
    · have := h (k, v) (by simp); simp at this; omega
    · exact ih fun q hq => h q (by simp [hq])
theorem icnt_put (b s : ByteArray) (n : Int) (es : IM) : icnt b (iput s n es) = if b = s then n else icnt b es := by
  induction es with
  | nil =>
    simp only [iput, icnt]
    by_cases h : b = s
    · subst h; simp
    · have h' : ¬ s = b := fun e => h e.symm
      simp [h, h']
  | cons p r ih =>
    obtain ⟨k, v⟩ := p
    simp only [iput]
    by_cases hk : k = s
    · subst hk
      simp only [if_true, icnt]
      by_cases h : b = k
      · subst h; simp
      · have h' : ¬ k = b := fun e => h e.symm
        simp [h, h']
    · simp only [hk, if_false, icnt, ih]
      by_cases h : k = b
      · subst h; simp [hk]
      · simp [h]
theorem good_put {es : IM} {N n : Int} (h : Good es N) (s : ByteArray) (h1 : 1 ≤ n) (h2 : n ≤ N) : Good (iput s n es) N := by
  induction es with
  | nil => intro p hp; simp [iput] at hp; subst hp; exact ⟨h1, h2⟩
  | cons p r ih =>
    obtain ⟨k, v⟩ := p
    simp only [iput]
    have hr : Good r N := fun q hq => h q (by simp [hq])
    split
    · intro q hq
      rcases List.mem_cons.1 hq with rfl | hq
      · exact ⟨h1, h2⟩
      · exact hr q hq
    · intro q hq
      rcases List.mem_cons.1 hq with rfl | hq
      · exact h _ (by simp)
      · exact ih hr q hq
theorem len_put {es : IM} {N : Int} (h : Good es N) (s : ByteArray) (n : Int) (h0 : ¬ 0 < icnt s es) : (iput s n es).length = es.length + 1 := by
  induction es with
  | nil => rfl
  | cons p r ih =>
    obtain ⟨k, v⟩ := p
    simp only [icnt] at h0
    by_cases hk : k = s
    · rw [if_pos hk] at h0
      have := (h (k, v) (by simp)).1
      simp at this; omega
    · rw [if_neg hk] at h0
      simp only [iput, if_neg hk, List.length_cons, ih (fun q hq => h q (by simp [hq])) h0]
theorem inc_good {es : IM} {N : Int} (h : Good es N) (h0 : 0 ≤ N) (hN : N < 1000000) (s : ByteArray) : Good (inc s es) (N + 1) ∧ ∀ b, (0 < icnt b (inc s es)) ↔ (0 < icnt b es ∨ b = s) := by
  have hr := icnt_range h h0 s
  have hw : IntKind.i64.wrap (icnt s es + 1) = icnt s es + 1 := by rw [wrap_i64] <;> omega
  unfold inc
  rw [hw]
  refine ⟨good_put (h.mono (by omega)) s (by omega) (by omega), fun b => ?_⟩
  rw [icnt_put]
  by_cases hb : b = s
  · simp [hb]; omega
  · simp [hb]

structure Lev (l : List Ins) (i fr : Nat) (dp : Int) (pl : Pl) : Prop where
  dep : depA (seg l fr i) 0 = dp
  all : pl.all = (scanA (seg l fr i) 0).any fun y => decide (y.op = 7)
  keys : ∀ b, (0 < icnt b pl.keys) ↔ (scanA (seg l fr i) 0).any (hasKey b) = true
  good : Good pl.keys i
  le : fr ≤ i
/-- What an instruction does at a level below. -/
theorem Lev.next {l : List Ins} {i fr : Nat} {dp : Int} {pl : Pl} {x : Ins} (h : Lev l i fr dp pl) (hx : l[i]? = some x) (hd : ¬ dp = 0 ∨ x.op = 2 ∨ isTell x.op = true) :
    Lev l (i + 1) fr (if x.op = 1 then dp + 1 else if x.op = 2 then dp - 1 else dp) pl := by
  have hs := seg_next hx h.le
  have hnew : ∀ p : Ins → Bool, (isTell x.op = true → p x = false) → (scanA (seg l fr (i + 1)) 0).any p = (scanA (seg l fr i) 0).any p := by
    intro p hp
    rw [hs, scanA_append, h.dep, List.any_append]
    simp only [scanA]
    rcases hd with hd | hd | hd
    · simp [hd]
    · simp [hd]
    · split <;> simp [hp hd]
  have ht7 : isTell x.op = true → decide (x.op = 7) = false := fun h => by simp [isTell] at h; simp; omega
  have htk : ∀ b, isTell x.op = true → hasKey b x = false := fun b h => by simp [isTell] at h; simp [hasKey, isEl]; intro h; omega
  refine ⟨?_, ?_, fun b => ?_, h.good.mono (by omega), by have := h.le; omega⟩
  · rw [hs, depA_append, h.dep]; rfl
  · rw [hnew _ ht7]; exact h.all
  · rw [hnew _ (htk b)]; exact h.keys b

structure Inv (l : List Ins) (i : Nat) (C : Chk) : Prop where
  len : C.pls.length = (stk l i).length + 1
  lev : ∀ (k : Nat) (fr : Nat) (pl : Pl), (0 :: stk l i)[k]? = some fr → C.pls[k]? = some pl → Lev l i fr ((stk l i).length - k) pl
  ahead : C.ahead = match (l.take i).reverse with | [] => 0 | y :: _ => y.op
  names : (isEl C.ahead || isTell C.ahead) = true → ∃ (run : List Ins) (y : Ins) (rest : List Ins), (l.take i).reverse = run ++ y :: rest ∧ (∀ z ∈ run, isTell z.op = true) ∧ isEl y.op = true ∧ C.names.length = run.length ∧ (∀ b, (0 < icnt b C.names) ↔ ∃ z ∈ run, z.a = b) ∧ Good C.names i
theorem rev_next {l : List Ins} {i : Nat} {x : Ins} (hx : l[i]? = some x) : (l.take (i + 1)).reverse = x :: (l.take i).reverse := by rw [take_next hx]; simp
theorem back_run (run : List Ins) (y : Ins) (rest : List Ins) (a : ByteArray) (n : Nat) (h1 : ∀ z ∈ run, isTell z.op = true) (h2 : isEl y.op = true) :
    backA (run ++ y :: rest) a n = if (∃ z ∈ run, z.a = a) ∨ 8 ≤ n + run.length then 9 else 0 := by
  induction run generalizing n with
  | nil =>
    have : isTell y.op = false := by simp [isEl] at h2; simp [isTell]; omega
    simp [backA, this, h2]
  | cons z run ih =>
    have hz := h1 z (by simp)
    simp only [List.cons_append, backA, hz, if_true]
    by_cases ha : z.a = a
    · simp [ha]
    · rw [if_neg ha, ih _ (fun w hw => h1 w (by simp [hw]))]
      simp [ha]
      congr 1
      apply propext
      constructor
      · rintro (h | h)
        · exact .inl h
        · right; omega
      · rintro (h | h)
        · exact .inl h
        · right; omega
theorem attr_same {l : List Ins} {i : Nat} {C : Chk} {x : Ins} (h : Inv l i C) (hi : (i : Int) < 1000000) : (match attrC C x with | none => 9 | some _ => 0) = attrR l i x := by
  unfold attrR attrC
  cases hel : (isEl C.ahead || isTell C.ahead) with
  | false =>
    simp only [Bool.not_false, Bool.true_or, if_true]
    have ha := h.ahead
    cases hr : (l.take i).reverse with
    | nil => rfl
    | cons y r =>
      rw [hr] at ha
      simp only at ha
      rw [ha, Bool.or_eq_false_iff] at hel
      simp [backA, hel.1, hel.2]
  | true =>
    obtain ⟨run, y, rest, e1, e2, e3, e4, e5, e6⟩ := h.names hel
    rw [e1, back_run run y rest _ _ e2 e3]
    simp only [Bool.not_true, Bool.false_or, Nat.zero_add, e4]
    by_cases hc : (∃ z ∈ run, z.a = x.a) ∨ 8 ≤ run.length
    · rw [if_pos hc]
      rcases hc with hc | hc
      · have := (e5 x.a).2 hc; simp [this]
      · simp [hc]
    · rw [if_neg hc]
      simp only [not_or] at hc
      have h1 : ¬ 0 < icnt x.a C.names := fun h => hc.1 ((e5 x.a).1 h)
      simp [h1, hc.2]

theorem last_get {α : Type} (l : List α) (a : α) : (a :: l)[l.length]? = some (l.getLast?.getD a) := by
  induction l generalizing a with
  | nil => rfl
  | cons b l ih =>
    rw [List.length_cons, List.getElem?_cons_succ, ih b]
    cases l with
    | nil => rfl
    | cons c l => simp [List.getLast?_cons]
theorem step_inv {l : List Ins} {i : Nat} {C : Chk} {x : Ins} (h : Inv l i C) (hx : l[i]? = some x) (hi : (i : Int) < 1000000) :
    (oneC C x).1 = wrongP l i x ∧ ((oneC C x).1 = 0 → Inv l (i + 1) { (oneC C x).2 with ahead := x.op }) := by
  have hst := stk_next hx
  have hrev := rev_next hx
  have hlen := h.len
  unfold oneC wrongP
  cases hm : mayIns x with
  | false => exact ⟨rfl, fun h => by cases h⟩
  | true =>
    simp only [if_true]
    cases ht : isTell x.op with
    | true =>
      simp only [if_true]
      have h12 : ¬ x.op = 1 ∧ ¬ x.op = 2 := by simp [isTell] at ht; omega
      have hst2 : stk l (i + 1) = stk l i := by rw [hst, stepS, if_neg h12.1, if_neg h12.2]
      rw [← attr_same h hi]
      cases ha : attrC C x with
      | none => exact ⟨rfl, fun h => by cases h⟩
      | some C' =>
        refine ⟨rfl, fun _ => ?_⟩
        have hel : (isEl C.ahead || isTell C.ahead) = true := by
          cases he : (isEl C.ahead || isTell C.ahead) with
          | true => rfl
          | false => simp [attrC, he] at ha
        have hc : ¬ 0 < icnt x.a C.names ∧ ¬ 8 ≤ C.names.length ∧ C' = { C with names := inc x.a C.names } := by
          unfold attrC at ha
          rw [hel] at ha
          split at ha
          · cases ha
          · rename_i hh
            injection ha with ha
            simp at hh
            exact ⟨by omega, by omega, ha.symm⟩
        obtain ⟨c1, c2, rfl⟩ := hc
        obtain ⟨run, y, rest, e1, e2, e3, e4, e5, e6⟩ := h.names hel
        have hg := inc_good e6 (by omega) (by omega) x.a
        refine ⟨by simpa [hst2] using hlen, fun k fr pl h1 h2 => ?_, by simp [hrev], fun _ => ⟨x :: run, y, rest, by rw [hrev, e1]; rfl, ?_, e3, ?_, fun b => ?_, ?_⟩⟩
        · rw [hst2] at h1
          have := (h.lev k fr pl h1 h2).next hx (.inr (.inr ht))
          rw [if_neg h12.1, if_neg h12.2] at this
          rw [hst2]; exact this
        · intro z hz
          rcases List.mem_cons.1 hz with rfl | hz
          · exact ht
          · exact e2 z hz
        · simp only [inc, len_put e6 _ _ c1, e4, List.length_cons]
        · rw [hg.2, e5]
          constructor
          · rintro (⟨z, hz, e⟩ | e)
            · exact ⟨z, by simp [hz], e⟩
            · exact ⟨x, by simp, e.symm⟩
          · rintro ⟨z, hz, e⟩
            rcases List.mem_cons.1 hz with rfl | hz
            · exact .inr e.symm
            · exact .inl ⟨z, hz, e⟩
        · have := hg.1; exact this.mono (by omega)
    | false =>
      simp only [Bool.false_eq_true, if_false]
      by_cases h2 : x.op = 2
      · simp only [h2, if_true]
        have hst2 : stk l (i + 1) = (stk l i).dropLast := by rw [hst, stepS, h2]; rfl
        by_cases hz : (stk l i).length = 0
        · rw [if_pos (by omega), if_pos hz]
          exact ⟨rfl, fun h => by cases h⟩
        · rw [if_neg (by omega), if_neg hz]
          refine ⟨rfl, fun _ => ⟨?_, fun k fr pl h1 h3 => ?_, by simp [hrev, h2], fun he => ?_⟩⟩
          · simp [hst2, hlen]; omega
          · rw [hst2] at h1
            have hk : k < (stk l i).length := by
              have := (List.getElem?_eq_some_iff.1 h3).1
              simp [hlen] at this; omega
            have g1 : (0 :: stk l i)[k]? = some fr := by
              rw [← h1]
              cases k with
              | zero => rfl
              | succ k => rw [List.getElem?_cons_succ, List.getElem?_cons_succ, List.getElem?_dropLast]; rw [if_pos (by omega)]
            have g3 : C.pls[k]? = some pl := by
              rw [List.getElem?_dropLast] at h3
              split at h3
              · exact h3
              · cases h3
            have := (h.lev k fr pl g1 g3).next hx (.inr (.inl h2))
            have e1 : (if x.op = 1 then ((stk l i).length : Int) - k + 1 else if x.op = 2 then ((stk l i).length : Int) - k - 1 else ((stk l i).length : Int) - k) = ((stk l (i + 1)).length : Int) - k := by
              rw [hst2, h2]; simp; omega
            rw [e1] at this
            exact this
          · simp [isEl, isTell] at he
      · simp only [h2, if_false]
        obtain ⟨ls, t, hpl⟩ : ∃ ls t, C.pls = ls ++ [t] := by
          have hne : C.pls ≠ [] := by intro e; rw [e] at hlen; simp at hlen
          exact ⟨C.pls.dropLast, C.pls.getLast hne, (List.dropLast_concat_getLast hne).symm⟩
        have hls : ls.length = (stk l i).length := by rw [hpl] at hlen; simpa using hlen
        have hlast : C.pls.getLast? = some t := by rw [hpl]; simp
        have L := h.lev (stk l i).length (beginP l i) t (last_get _ _) (by rw [hpl, ← hls]; simp)
        rw [Int.sub_self] at L
        have hA : scanA (seg l (beginP l i) i) 0 = aheadP l i := rfl
        have La := L.all
        have Lk := L.keys
        rw [hA] at La Lk
        have hkd : ∀ b, decide (0 < icnt b t.keys) = (aheadP l i).any (hasKey b) := fun b => by
          rw [Bool.eq_iff_iff, decide_eq_true_eq]; exact Lk b
        have hsc : standsC C x = if (aheadP l i).any (fun y => decide (y.op = 7)) then (11, C) else if (isEl x.op && !decide (x.b = ⟨#[]⟩)) && (aheadP l i).any (hasKey x.b) then (10, C) else if x.op = 1 ∧ 8 < C.pls.length then (12, C) else
            (0, { C with pls := ls ++ [{ keys := if isEl x.op then inc x.b t.keys else t.keys, all := decide (x.op = 7) }] ++ (if x.op = 1 then [⟨[], false⟩] else []), names := if isEl x.op then [] else C.names }) := by
          unfold standsC
          rw [hlast]
          simp only [La, hkd, hpl, List.dropLast_concat]
        rw [hsc]
        cases h7 : (aheadP l i).any (fun y => decide (y.op = 7)) with
        | true => exact ⟨rfl, fun h => by cases h⟩
        | false =>
          simp only [Bool.false_eq_true, if_false]
          cases hk : (isEl x.op && !decide (x.b = ⟨#[]⟩)) && (aheadP l i).any (hasKey x.b) with
          | true => exact ⟨rfl, fun h => by cases h⟩
          | false =>
            simp only [Bool.false_eq_true, if_false]
            by_cases hd : x.op = 1 ∧ 8 < C.pls.length
            · rw [if_pos hd, if_pos (show x.op = 1 ∧ 8 ≤ (stk l i).length from ⟨hd.1, by omega⟩)]
              exact ⟨rfl, fun h => by cases h⟩
            · rw [if_neg hd, if_neg (show ¬ (x.op = 1 ∧ 8 ≤ (stk l i).length) from fun hh => hd ⟨hh.1, by omega⟩)]
              refine ⟨rfl, fun _ => ?_⟩
              have hst2 : stk l (i + 1) = if x.op = 1 then stk l i ++ [i + 1] else stk l i := by rw [hst, stepS, if_neg h2]
              have hsl : ((stk l (i + 1)).length : Int) = if x.op = 1 then ((stk l i).length : Int) + 1 else (stk l i).length := by rw [hst2]; split <;> simp
              have hsn := seg_next hx L.le
              have hscan : scanA (seg l (beginP l i) (i + 1)) 0 = aheadP l i ++ [x] := by rw [hsn, scanA_append, L.dep, hA]; simp [scanA, h2]
              have hdep : depA (seg l (beginP l i) (i + 1)) 0 = if x.op = 1 then 1 else 0 := by rw [hsn, depA_append, L.dep]; simp [depA, h2]
              have hg := inc_good L.good (by omega) (by omega) x.b
              refine ⟨?_, fun k fr pl h1 h3 => ?_, by simp [hrev], fun he => ?_⟩
              · simp only [hst2, List.length_append, List.length_cons, List.length_nil, hls]
                split <;> simp
              · by_cases hkn : k < (stk l i).length
                · have g1 : (0 :: stk l i)[k]? = some fr := by
                    rw [← h1, hst2]
                    split
                    · cases k with
                      | zero => rfl
                      | succ k => rw [List.getElem?_cons_succ, List.getElem?_cons_succ, List.getElem?_append_left (by omega)]
                    · rfl
                  have g3 : C.pls[k]? = some pl := by
                    rw [hpl, List.getElem?_append_left (by omega), ← h3]
                    simp only [List.append_assoc]
                    rw [List.getElem?_append_left (by omega)]
                  have := (h.lev k fr pl g1 g3).next hx (.inl (by omega))
                  have e1 : (if x.op = 1 then ((stk l i).length : Int) - k + 1 else if x.op = 2 then ((stk l i).length : Int) - k - 1 else ((stk l i).length : Int) - k) = ((stk l (i + 1)).length : Int) - k := by
                    rw [hsl, if_neg h2]; split <;> omega
                  rw [e1] at this; exact this
                · by_cases hke : k = (stk l i).length
                  · subst hke
                    have g1 : fr = beginP l i := by
                      have := last_get (stk l i) 0
                      have e : (0 :: stk l (i + 1))[(stk l i).length]? = (0 :: stk l i)[(stk l i).length]? := by
                        rw [hst2]
                        split
                        · have : 0 :: (stk l i ++ [i + 1]) = (0 :: stk l i) ++ [i + 1] := rfl
                          rw [this, List.getElem?_append_left (by simp)]
                        · rfl
                      rw [e, this] at h1
                      injection h1 with h1; exact h1.symm
                    have g3 : pl = { keys := if isEl x.op then inc x.b t.keys else t.keys, all := decide (x.op = 7) } := by
                      simp only [List.append_assoc] at h3
                      rw [← hls, List.getElem?_append_right (Nat.le_refl _), Nat.sub_self] at h3
                      simp at h3; exact h3.symm
                    subst g1 g3
                    refine ⟨?_, ?_, fun b => ?_, ?_, by have := L.le; omega⟩
                    · rw [hdep, hsl]; split <;> omega
                    · rw [hscan, List.any_append, h7]; simp
                    · rw [hscan, List.any_append, Bool.or_eq_true]
                      cases hel : isEl x.op with
                      | true =>
                        simp only [if_true]
                        rw [hg.2, Lk]
                        have e : ([x].any (hasKey b) = true) ↔ b = x.b := by
                          simp [hasKey, hel]; exact eq_comm
                        rw [e]
                      | false =>
                        simp only [Bool.false_eq_true, if_false]
                        rw [Lk]
                        simp [hasKey, hel]
                    · cases hel : isEl x.op with
                      | true => simp only [if_true]; exact hg.1.mono (by omega)
                      | false => simp only [Bool.false_eq_true, if_false]; exact L.good.mono (by omega)
                  · have hk1 : x.op = 1 ∧ k = (stk l i).length + 1 := by
                      have := (List.getElem?_eq_some_iff.1 h1).1
                      rw [hst2] at this
                      split at this
                      · rename_i ho; simp at this; exact ⟨ho, by omega⟩
                      · simp at this; omega
                    obtain ⟨ho, rfl⟩ := hk1
                    rw [hst2, if_pos ho, List.getElem?_cons_succ, List.getElem?_append_right (Nat.le_refl _), Nat.sub_self] at h1
                    simp at h1
                    rw [if_pos ho, List.getElem?_append_right (by simp [hls])] at h3
                    simp [hls] at h3
                    subst h1 h3
                    refine ⟨?_, ?_, fun b => ?_, fun p hp => by simp at hp, Nat.le_refl _⟩
                    · rw [seg_self, hsl, if_pos ho]; simp [depA]; try omega
                    · rw [seg_self]; rfl
                    · rw [seg_self]; simp [icnt, scanA]
              · have hel : isEl x.op = true := by simpa [ht] using he
                exact ⟨[], x, (l.take i).reverse, hrev, by simp, hel, by simp [hel], fun b => by simp [hel, icnt], by simp [hel, Good]⟩

theorem run_same (l : List Ins) (hl : l.length < 1000000) : ∀ (r : List Ins) (i : Nat) (C : Chk), l.drop i = r → i ≤ l.length → Inv l i C → (runC C r).1 = runR l r i ∧ ((runC C r).1 = 0 → Inv l l.length (runC C r).2) := by
  intro r
  induction r with
  | nil =>
    intro i C hd hi h
    have : i = l.length := by
      have := congrArg List.length hd; simp at this; omega
    subst this
    exact ⟨rfl, fun _ => h⟩
  | cons x r ih =>
    intro i C hd hi h
    have hlt : i < l.length := by
      have := congrArg List.length hd; simp at this; omega
    have hx : l[i]? = some x := by
      have := List.drop_eq_getElem_cons hlt
      rw [hd] at this; injection this with h1 h2
      rw [List.getElem?_eq_getElem hlt, h1]
    have hd2 : l.drop (i + 1) = r := by
      have := List.drop_eq_getElem_cons hlt
      rw [hd] at this; injection this with h1 h2
      exact h2.symm
    obtain ⟨h1, h2⟩ := step_inv h hx (by omega)
    simp only [runC, runR]
    rw [← h1]
    by_cases h0 : (oneC C x).1 = 0
    · rw [if_pos h0, if_pos h0]
      exact ih (i + 1) _ hd2 (by omega) (h2 h0)
    · rw [if_neg h0, if_neg h0]
      exact ⟨rfl, fun h => absurd h h0⟩
theorem inv0 (l : List Ins) : Inv l 0 chk0 := by
  refine ⟨rfl, fun k fr pl h1 h2 => ?_, rfl, fun h => by simp [chk0, isEl, isTell] at h⟩
  have hk : k = 0 := by
    have := (List.getElem?_eq_some_iff.1 h2).1
    simp [chk0] at this; exact this
  subst hk
  simp [chk0] at h2
  simp [stk, stkF] at h1
  subst h1 h2
  refine ⟨by simp [seg, depA, stk, stkF], by simp [seg, scanA], fun b => by simp [icnt, seg, scanA], fun p hp => by simp at hp, Nat.le_refl _⟩
theorem check_same (l : List Ins) : chkP l = checkR l := by
  unfold chkP checkR
  by_cases h : 120 < l.length
  · rw [if_pos h, if_pos h]
  · rw [if_neg h, if_neg h]
    obtain ⟨h1, h2⟩ := run_same l (by omega) l 0 chk0 rfl (Nat.zero_le _) (inv0 l)
    rw [← h1]
    by_cases h0 : (runC chk0 l).1 = 0
    · rw [if_pos h0, if_pos h0]
      have := (h2 h0).len
      by_cases h3 : 0 < (stk l l.length).length
      · rw [if_pos h3, if_pos (show 1 < (runC chk0 l).2.pls.length by omega)]
      · rw [if_neg h3, if_neg (show ¬ 1 < (runC chk0 l).2.pls.length by omega)]
    · rw [if_neg h0, if_neg h0]
theorem attrR_le (l : List Ins) (a : ByteArray) (n : Nat) : backA l a n ≤ 13 := by
  induction l generalizing n with
  | nil => simp [backA]
  | cons x l ih => unfold backA; split <;> (try split) <;> (try omega); exact ih _
theorem wrong_le (l : List Ins) (a : Nat) (x : Ins) : wrongP l a x ≤ 13 := by
  unfold wrongP attrR
  repeat' split
  all_goals first | omega | exact attrR_le _ _ _
theorem check_le (l : List Ins) : chkP l ≤ 13 := by
  rw [check_same]
  unfold checkR
  have : ∀ (r : List Ins) i, runR l r i ≤ 13 := by
    intro r
    induction r with
    | nil => intro i; simp [runR]
    | cons x r ih => intro i; simp only [runR]; split; exact ih _; exact wrong_le _ _ _
  split
  · omega
  · split
    · split <;> omega
    · exact this _ _
theorem up13_a : chkP [⟨2, ⟨#[]⟩, ⟨#[]⟩⟩] = 8 := by decide +kernel
theorem up13_b : chkP [⟨1, ⟨#[112]⟩, ⟨#[]⟩⟩, ⟨5, ⟨#[97]⟩, ⟨#[]⟩⟩, ⟨4, ⟨#[]⟩, ⟨#[]⟩⟩, ⟨2, ⟨#[]⟩, ⟨#[]⟩⟩] = 0 := by decide +kernel
end Go.HL
