/- Programs that may be, as what they are made of. -/
import Derived.Test.YtdbbbhjajkobaabGwish
set_option linter.unusedVariables false
set_option linter.unusedSimpArgs false
set_option maxRecDepth 100000
set_option maxHeartbeats 1000000
namespace Go.HL
open Go.RowKit Go.Proofs

def noTell (l : List Ins) : Prop := ∀ x r, l = x :: r → isTell x.op = false
inductive Blk : List Ins → List Want → Prop
  | nil : Blk [] []
  | text (x : Ins) (r : List Ins) (ws : List Want) (hm : mayIns x = true) (h : x.op = 4) (hr : noTell r) (b : Blk r ws) : Blk (x :: r) (.mk 2 ⟨#[]⟩ ⟨#[]⟩ x.a [] [] :: ws)
  | node (x : Ins) (r : List Ins) (ws : List Want) (hm : mayIns x = true) (h : x.op = 8) (hr : noTell r) (b : Blk r ws) : Blk (x :: r) (.mk 3 ⟨#[]⟩ ⟨#[]⟩ ⟨#[]⟩ [] [] :: ws)
  | all (x : Ins) (r : List Ins) (ws : List Want) (hm : mayIns x = true) (h : x.op = 7) (hr : noTell r) (b : Blk r ws) : Blk (x :: r) (.mk 4 ⟨#[]⟩ ⟨#[]⟩ ⟨#[]⟩ [] [] :: ws)
  | void (x : Ins) (ats r : List Ins) (ws : List Want) (hm : mayIns x = true) (h : x.op = 3) (ha : ∀ y ∈ ats, isTell y.op = true) (hr : noTell r) (b : Blk r ws) : Blk (x :: (ats ++ r)) (.mk 1 x.a x.b ⟨#[]⟩ (ats.map insA) [] :: ws)
  | elem (x : Ins) (ats body : List Ins) (c : Ins) (r : List Ins) (ks ws : List Want) (hm : mayIns x = true) (h : x.op = 1) (ha : ∀ y ∈ ats, isTell y.op = true) (hb : noTell body) (b1 : Blk body ks) (hc : c.op = 2) (hcm : mayIns c = true) (hr : noTell r) (b2 : Blk r ws) :
      Blk (x :: (ats ++ (body ++ c :: r))) (.mk 1 x.a x.b ⟨#[]⟩ (ats.map insA) ks :: ws)
/-- What the checker lets in, but for depth, keys and what keeps all. -/
def V : Nat → Int → List Ins → Prop
  | d, _, [] => d = 0
  | d, p, x :: r => mayIns x = true ∧ if isTell x.op then (isEl p || isTell p) = true ∧ V d x.op r else if x.op = 2 then 0 < d ∧ V (d - 1) x.op r else V (if x.op = 1 then d + 1 else d) x.op r
theorem runC_V : ∀ (l : List Ins) (C : Chk) (d : Nat), C.pls.length = d + 1 → (runC C l).1 = 0 → ((runC C l).2.pls.length = 1) → V d C.ahead l := by
  intro l
  induction l with
  | nil => intro C d h1 _ h2; simp only [runC] at h2; simp only [V]; omega
  | cons x r ih =>
    intro C d h1 h0 h2
    simp only [runC] at h0 h2
    by_cases h : (oneC C x).1 = 0
    · rw [if_pos h] at h0 h2
      simp only [V]
      unfold oneC at h h0 h2
      cases hm : mayIns x with
      | false => rw [hm] at h; simp at h
      | true =>
        simp only [hm, if_true] at h h0 h2
        refine ⟨rfl, ?_⟩
        cases ht : isTell x.op with
        | true =>
          simp only [ht, if_true] at h h0 h2 ⊢
          cases ha : attrC C x with
          | none => rw [ha] at h; simp at h
          | some C' =>
            rw [ha] at h0 h2
            have hel : (isEl C.ahead || isTell C.ahead) = true := by
              cases he : (isEl C.ahead || isTell C.ahead) with
              | true => rfl
              | false => simp [attrC, he] at ha
            have hp : C'.pls = C.pls := by
              unfold attrC at ha
              split at ha
              · cases ha
              · injection ha with ha; rw [← ha]
            exact ⟨hel, ih { C' with ahead := x.op } d (by simp [hp, h1]) h0 h2⟩
        | false =>
          simp only [ht, Bool.false_eq_true, if_false] at h h0 h2 ⊢
          by_cases h2' : x.op = 2
          · rw [if_pos h2'] at h h0 h2 ⊢
            by_cases h3 : C.pls.length = 1
            · rw [if_pos h3] at h; simp at h
            · rw [if_neg h3] at h0 h2
              exact ⟨by omega, ih _ (d - 1) (by simp; omega) h0 h2⟩
          · rw [if_neg h2'] at h h0 h2 ⊢
            unfold standsC at h h0 h2
            cases hg : C.pls.getLast? with
            | none => rw [List.getLast?_eq_none_iff] at hg; rw [hg] at h1; simp at h1
            | some t =>
              simp only [hg] at h h0 h2
              split at h
              · cases h
              · rename_i g1
                split at h
                · cases h
                · rename_i g2
                  split at h
                  · cases h
                  · rename_i g3
                    rw [if_neg g1, if_neg g2, if_neg g3] at h0 h2
                    refine ih _ _ ?_ h0 h2
                    by_cases ho : x.op = 1
                    · simp only [ho, if_true, List.length_append, List.length_dropLast, List.length_cons, List.length_nil]; omega
                    · simp only [if_neg ho, List.append_nil, List.length_append, List.length_dropLast, List.length_cons, List.length_nil]; omega
    · rw [if_neg h] at h0; exact absurd h0 h
theorem chk_V {l : List Ins} (h : chkP l = 0) : V 0 0 l ∧ l.length ≤ 120 := by
  unfold chkP at h
  split at h
  · cases h
  · split at h
    · rename_i h1 h2
      split at h
      · cases h
      · rename_i h3
        have hpos : 1 ≤ (runC chk0 l).2.pls.length := by
          have gen : ∀ (l : List Ins) (C : Chk), 1 ≤ C.pls.length → (runC C l).1 = 0 → 1 ≤ (runC C l).2.pls.length := by
            intro l
            induction l with
            | nil => intro C h _; exact h
            | cons x r ih =>
              intro C hC h0
              simp only [runC] at h0 ⊢
              by_cases h : (oneC C x).1 = 0
              · rw [if_pos h] at h0 ⊢
                refine ih _ ?_ h0
                show 1 ≤ (oneC C x).2.pls.length
                unfold oneC at h ⊢
                split
                · split
                  · rename_i hm ht
                    cases ha : attrC C x with
                    | none => exact hC
                    | some C' =>
                      have hp : C'.pls = C.pls := by
                        unfold attrC at ha
                        split at ha
                        · cases ha
                        · injection ha with ha; rw [← ha]
                      show 1 ≤ C'.pls.length
                      rw [hp]; exact hC
                  · split
                    · split
                      · exact hC
                      · simp; omega
                    · unfold standsC
                      split
                      · exact hC
                      · split
                        · exact hC
                        · split
                          · exact hC
                          · split
                            · exact hC
                            · simp only [List.length_append, List.length_dropLast, List.length_cons, List.length_nil]; omega
                · exact hC
              · rw [if_neg h] at h0; exact absurd h0 h
          exact gen l chk0 (by simp [chk0]) h2
        exact ⟨runC_V l chk0 0 (by simp [chk0]) h2 (by omega), by omega⟩
    · rename_i h2; exact absurd h h2

theorem V_tells : ∀ (r : List Ins) (d : Nat) (p : Int), V d p r → (isEl p || isTell p) = true → ∃ q, V d q (r.dropWhile fun y => isTell y.op) := by
  intro r
  induction r with
  | nil => intro d p h _; exact ⟨p, h⟩
  | cons x r ih =>
    intro d p h hp
    cases ht : isTell x.op with
    | true =>
      simp only [V, ht, if_true] at h
      have : (x :: r).dropWhile (fun y => isTell y.op) = r.dropWhile (fun y => isTell y.op) := by simp [ht]
      rw [this]
      exact ih d x.op h.2.2 (by simp [ht])
    | false =>
      have : (x :: r).dropWhile (fun y => isTell y.op) = x :: r := by simp [ht]
      rw [this]; exact ⟨p, h⟩
theorem noTell_drop (r : List Ins) : noTell (r.dropWhile fun y => isTell y.op) := by
  intro x q h
  induction r with
  | nil => simp at h
  | cons y r ih =>
    cases ht : isTell y.op with
    | true => simp only [List.dropWhile_cons, ht, if_true] at h; exact ih h
    | false => simp only [List.dropWhile_cons, ht, Bool.false_eq_true, if_false] at h; injection h with h1 h2; rw [← h1]; exact ht
theorem V_noTell {d : Nat} {p : Int} {r : List Ins} (h : V d p r) (hp : (isEl p || isTell p) = false) : noTell r := by
  intro x q hr
  subst hr
  cases ht : isTell x.op with
  | false => rfl
  | true => simp only [V, ht, if_true] at h; rw [hp] at h; cases h.2.1
theorem takeW_tell (r : List Ins) : ∀ y ∈ r.takeWhile (fun y => isTell y.op), isTell y.op = true := by
  intro y hy
  have : ∀ (r : List Ins), y ∈ r.takeWhile (fun y => isTell y.op) → isTell y.op = true := by
    intro r
    induction r with
    | nil => simp
    | cons x r ih =>
      intro h
      cases ht : isTell x.op with
      | true =>
        simp only [List.takeWhile_cons, ht, if_true] at h
        rcases List.mem_cons.1 h with rfl | h
        · exact ht
        · exact ih h
      | false => simp [List.takeWhile_cons, ht] at h
  exact this r hy
/-- What is let in is made of blocks: up to a Close, or the end. -/
theorem parse : ∀ (n : Nat) (l : List Ins) (d : Nat) (p : Int), l.length ≤ n → V d p l → noTell l →
    ∃ body rest, Blk body (someW n l).1 ∧ l = body ++ rest ∧ noTell rest ∧ ((rest = [] ∧ d = 0 ∧ (someW n l).2 = []) ∨ ∃ c r', rest = c :: r' ∧ c.op = 2 ∧ mayIns c = true ∧ 0 < d ∧ V (d - 1) 2 r' ∧ (someW n l).2 = r') := by
  intro n
  induction n with
  | zero =>
    intro l d p hn hV _
    have : l = [] := List.eq_nil_of_length_eq_zero (by omega)
    subst this
    exact ⟨[], [], .nil, rfl, fun x r h => by simp at h, .inl ⟨rfl, hV, rfl⟩⟩
  | succ n ih =>
    intro l d p hn hV hnt
    cases l with
    | nil => exact ⟨[], [], .nil, rfl, fun x r h => by simp at h, .inl ⟨rfl, hV, rfl⟩⟩
    | cons x r =>
      have hx := hnt x r rfl
      simp only [List.length_cons] at hn
      have hV0 := hV
      simp only [V, hx, Bool.false_eq_true, if_false] at hV
      obtain ⟨hm, hV⟩ := hV
      by_cases h2 : x.op = 2
      · rw [if_pos h2] at hV
        refine ⟨[], x :: r, ?_, rfl, hnt, .inr ⟨x, r, rfl, h2, hm, hV.1, ?_, ?_⟩⟩
        · simp only [someW, if_pos h2]; exact .nil
        · rw [← h2]; exact hV.2
        · simp only [someW, if_pos h2]
      · rw [if_neg h2] at hV
        obtain ⟨ho1, ho2⟩ : (1 ≤ x.op ∧ x.op ≤ 8) ∧ True := by
          refine ⟨?_, trivial⟩
          unfold mayIns at hm
          by_cases e1 : x.op = 1
          · omega
          · by_cases e3 : x.op = 3
            · omega
            · by_cases e4 : x.op = 4
              · omega
              · by_cases e5 : x.op = 5 ∨ x.op = 6
                · omega
                · by_cases e6 : x.op = 2 ∨ x.op = 7 ∨ x.op = 8
                  · omega
                  · simp [e1, e3, e4, e5, e6] at hm
        have ht56 : ¬ x.op = 5 ∧ ¬ x.op = 6 := by simp [isTell] at hx; exact hx
        -- the rest, once the first one is taken
        have go : ∀ (w : Want) (r2 : List Ins) (q : Int), oneW (someW n) x r = (w, r2) → r2.length ≤ n → V d q r2 → noTell r2 →
            (∀ body ws, Blk body ws → noTell body → ∀ rest, r2 = body ++ rest → ∃ b2, Blk b2 (w :: ws) ∧ x :: r = b2 ++ rest) →
            ∃ body rest, Blk body (someW (n + 1) (x :: r)).1 ∧ x :: r = body ++ rest ∧ noTell rest ∧ ((rest = [] ∧ d = 0 ∧ (someW (n + 1) (x :: r)).2 = []) ∨ ∃ c r', rest = c :: r' ∧ c.op = 2 ∧ mayIns c = true ∧ 0 < d ∧ V (d - 1) 2 r' ∧ (someW (n + 1) (x :: r)).2 = r') := by
          intro w r2 q ho hl hv hn2 hb
          obtain ⟨body, rest, b1, b2, b3, b4⟩ := ih r2 d q hl hv hn2
          have hnb : noTell body := by
            intro y z hy
            subst hy
            exact hn2 y (z ++ rest) (by rw [b2]; rfl)
          obtain ⟨bb, b5, b6⟩ := hb body _ b1 hnb rest b2
          refine ⟨bb, rest, ?_, b6, b3, ?_⟩
          · simp only [someW, if_neg h2, ho]; exact b5
          · simp only [someW, if_neg h2, ho]; exact b4
        by_cases h4 : x.op = 4
        · rw [if_neg (by omega)] at hV
          have hn2 := V_noTell hV (by rw [h4]; decide)
          exact go _ r x.op (by simp [oneW, h4]) (by omega) hV hn2 fun body ws b hnb rest he => ⟨x :: body, .text x body ws hm h4 hnb b, by rw [he]; rfl⟩
        · by_cases h8 : x.op = 8
          · rw [if_neg (by omega)] at hV
            have hn2 := V_noTell hV (by rw [h8]; decide)
            exact go _ r x.op (by simp [oneW, h8]) (by omega) hV hn2 fun body ws b hnb rest he => ⟨x :: body, .node x body ws hm h8 hnb b, by rw [he]; rfl⟩
          · by_cases h7 : x.op = 7
            · rw [if_neg (by omega)] at hV
              have hn2 := V_noTell hV (by rw [h7]; decide)
              exact go _ r x.op (by simp [oneW, h7]) (by omega) hV hn2 fun body ws b hnb rest he => ⟨x :: body, .all x body ws hm h7 hnb b, by rw [he]; rfl⟩
            · have hdl := dropW_le r fun y => isTell y.op
              have hsplit : r = r.takeWhile (fun y => isTell y.op) ++ r.dropWhile (fun y => isTell y.op) := List.takeWhile_append_dropWhile.symm
              have htk := takeW_tell r
              have hnd := noTell_drop r
              by_cases h1 : x.op = 1
              · rw [if_pos h1] at hV
                obtain ⟨q, hq⟩ := V_tells r (d + 1) x.op hV (by rw [h1]; decide)
                obtain ⟨body1, rest1, c1, c2, c3, c4⟩ := ih (r.dropWhile fun y => isTell y.op) (d + 1) q (by omega) hq hnd
                have hnb1 : noTell body1 := by
                  intro y z hy
                  subst hy
                  exact hnd y (z ++ rest1) (by rw [c2]; rfl)
                rcases c4 with ⟨_, h0, _⟩ | ⟨c, r', e1, e2, e2m, _, e3, e4⟩
                · omega
                · rw [Nat.add_sub_cancel] at e3
                  have hn2 := V_noTell e3 (by decide)
                  refine go _ r' 2 ?_ ?_ e3 hn2 fun body ws b hnb rest he => ⟨x :: (r.takeWhile (fun y => isTell y.op) ++ (body1 ++ c :: body)), .elem x _ body1 c body _ ws hm h1 htk hnb1 c1 e2 e2m hnb b, ?_⟩
                  · simp only [oneW, if_neg h4, if_neg h8, if_neg h7, if_pos h1, e4]
                  · have := congrArg List.length c2
                    rw [e1] at this
                    simp only [List.length_append, List.length_cons] at this
                    omega
                  · conv => lhs; rw [hsplit, c2, e1, he]
                    simp
              · rw [if_neg h1] at hV
                have h3 : x.op = 3 := by omega
                obtain ⟨q, hq⟩ := V_tells r d x.op hV (by rw [h3]; decide)
                refine go _ (r.dropWhile fun y => isTell y.op) q ?_ (by omega) hq hnd fun body ws b hnb rest he => ⟨x :: (r.takeWhile (fun y => isTell y.op) ++ body), .void x _ body ws hm h3 htk hnb b, ?_⟩
                · simp only [oneW, if_neg h4, if_neg h8, if_neg h7, if_neg h1]
                · conv => lhs; rw [hsplit, he]
                  simp
theorem blk_of {l : List Ins} (h : chkP l = 0) : Blk l (someP l).1 := by
  obtain ⟨hV, -⟩ := chk_V h
  obtain ⟨body, rest, b1, b2, b3, b4⟩ := parse l.length l 0 0 (Nat.le_refl _) hV (V_noTell hV (by decide))
  rcases b4 with ⟨e, _, _⟩ | ⟨c, r', _, _, _, h0, _⟩
  · subst e
    rw [List.append_nil] at b2
    have : someP l = someW l.length l := rfl
    rw [this]
    rw [← b2] at b1
    exact b1
  · omega
end Go.HL
