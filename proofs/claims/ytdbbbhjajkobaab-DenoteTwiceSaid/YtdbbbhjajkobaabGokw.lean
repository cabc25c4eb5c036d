/- What is told by a program that may be. -/
import Derived.Test.YtdbbbhjajkobaabGblk
set_option linter.unusedVariables false
set_option linter.unusedSimpArgs false
set_option maxRecDepth 100000
set_option maxHeartbeats 2000000
namespace Go.HL
open Go.RowKit Go.Proofs

structure Ok1 (w : Want) : Prop where
  kinds : 1 ≤ w.kind ∧ w.kind ≤ 4
  elem : w.kind = 1 → mayName w.tag = true ∧ mayText w.key = true ∧ mayAttrs w.attrs = true ∧ (voidN w.tag = true → w.kids = [])
  text : w.kind = 2 → mayText w.text = true
  plain : w.kind ≠ 1 → w.tag = ⟨#[]⟩ ∧ w.key = ⟨#[]⟩ ∧ w.attrs = [] ∧ w.kids = []
  none : w.kind ≠ 2 → w.text = ⟨#[]⟩
def LastAll : List Want → Prop
  | [] => True
  | w :: r => (w.kind = 4 → r = []) ∧ LastAll r
def KeysNd : List Want → Prop
  | [] => True
  | w :: r => (w.kind = 1 → w.key ≠ ⟨#[]⟩ → ∀ v ∈ r, v.kind = 1 → v.key ≠ w.key) ∧ KeysNd r
inductive OkL : List Want → Prop
  | mk (ws : List Want) (h1 : ∀ w ∈ ws, Ok1 w) (h2 : ∀ w ∈ ws, OkL w.kids) (h3 : LastAll ws) (h4 : KeysNd ws) : OkL ws
def K01 (m : IM) : Prop := ∀ k, k ≠ ⟨#[]⟩ → icnt k m = 0 ∨ icnt k m = 1
theorem icnt_iput (s k : ByteArray) (n : Int) (m : IM) : icnt k (iput s n m) = if s = k then n else icnt k m := by
  induction m with
  | nil => simp only [iput, icnt]
  | cons p r ih =>
    obtain ⟨a, v⟩ := p
    simp only [iput]
    by_cases h : a = s
    · subst h
      rw [if_pos rfl]
      simp only [icnt]
      by_cases hk : a = k <;> simp [hk]
    · rw [if_neg h]
      simp only [icnt, ih]
      by_cases hk : a = k
      · subst hk; simp [Ne.symm h]
      · simp [hk]
theorem inc_zero {s : ByteArray} {m : IM} (h : icnt s m = 0) (k : ByteArray) : icnt k (inc s m) = if s = k then 1 else icnt k m := by
  unfold inc
  rw [icnt_iput, h]
  rfl
theorem inc_other {s k : ByteArray} {m : IM} (h : ¬ s = k) : icnt k (inc s m) = icnt k m := by
  unfold inc; rw [icnt_iput, if_neg h]
def namesOf (l : List Ins) : IM := l.map fun y => (y.a, 1)
theorem icnt_names (l : List Ins) (s : ByteArray) : (s ∈ l.map Ins.a ∧ icnt s (namesOf l) = 1) ∨ (s ∉ l.map Ins.a ∧ icnt s (namesOf l) = 0) := by
  induction l with
  | nil => exact .inr ⟨by simp, rfl⟩
  | cons y l ih =>
    have e : icnt s (namesOf (y :: l)) = if y.a = s then (1 : Int) else icnt s (namesOf l) := rfl
    rw [e]
    by_cases h : y.a = s
    · exact .inl ⟨by simp [h], by rw [if_pos h]⟩
    · rw [if_neg h]
      rcases ih with h1 | h1
      · exact .inl ⟨List.mem_cons_of_mem _ h1.1, h1.2⟩
      · exact .inr ⟨fun hh => by
          rcases List.mem_cons.1 hh with hh | hh
          · exact h hh.symm
          · exact h1.1 hh, h1.2⟩
theorem inc_names (l : List Ins) (x : Ins) (h : x.a ∉ l.map Ins.a) : inc x.a (namesOf l) = namesOf (l ++ [x]) := by
  have h0 : icnt x.a (namesOf l) = 0 := (icnt_names l x.a).elim (fun hh => absurd hh.1 h) fun hh => hh.2
  unfold inc
  rw [h0]
  have hw : IntKind.i64.wrap (0 + 1) = 1 := rfl
  rw [hw]
  clear h0 hw
  induction l with
  | nil => rfl
  | cons y l ih =>
    have h1 : ¬ y.a = x.a := fun e => h (by simp [e])
    show (if y.a = x.a then (x.a, (1 : Int)) :: namesOf l else (y.a, 1) :: iput x.a 1 (namesOf l)) = _
    rw [if_neg h1, ih fun hh => h (by simp at hh ⊢; exact .inr hh)]
    rfl
theorem run_zero {C : Chk} {x : Ins} {m : List Ins} (h : (runC C (x :: m)).1 = 0) : (oneC C x).1 = 0 ∧ runC C (x :: m) = runC { (oneC C x).2 with ahead := x.op } m := by
  simp only [runC] at h ⊢
  by_cases h0 : (oneC C x).1 = 0
  · exact ⟨h0, by rw [if_pos h0]⟩
  · rw [if_neg h0] at h; exact absurd h h0
theorem attrs_run (r0 : List Ins) : ∀ (ats pre : List Ins) (C : Chk), (∀ y ∈ ats, isTell y.op = true) → (isEl C.ahead || isTell C.ahead) = true → C.names = namesOf pre → (pre.map Ins.a).Nodup → pre.length ≤ 8 → (runC C (ats ++ r0)).1 = 0 →
    ∃ C', C'.pls = C.pls ∧ runC C (ats ++ r0) = runC C' r0 ∧ ((pre ++ ats).map Ins.a).Nodup ∧ (pre ++ ats).length ≤ 8 ∧ ∀ y ∈ ats, mayIns y = true := by
  intro ats
  induction ats with
  | nil => intro pre C _ _ _ h1 h2 _; exact ⟨C, rfl, rfl, by simpa using h1, by simpa using h2, by simp⟩
  | cons y ats ih =>
    intro pre C ht ha hn h1 h2 h0
    obtain ⟨h3, h4⟩ := run_zero (m := ats ++ r0) h0
    have hty := ht y (by simp)
    have hm : mayIns y = true := by
      cases hm : mayIns y with
      | true => rfl
      | false => simp [oneC, hm] at h3
    cases hat : attrC C y with
    | none => simp [oneC, hm, hty, hat] at h3
    | some C1 =>
      have he : oneC C y = (0, C1) := by simp [oneC, hm, hty, hat]
      unfold attrC at hat
      split at hat
      · cases hat
      · rename_i hc
        injection hat with hat
        rw [ha, hn] at hc
        obtain ⟨hny, hz⟩ : y.a ∉ pre.map Ins.a ∧ icnt y.a (namesOf pre) = 0 := by
          rcases icnt_names pre y.a with h | h
          · rw [h.2] at hc; simp at hc
          · exact h
        rw [hz] at hc
        have h8 : ¬ 8 ≤ pre.length := by simpa [namesOf] using hc
        rw [hn, inc_names pre y hny] at hat
        rw [he] at h4
        have hpl : C1.pls = C.pls := by rw [← hat]
        rw [show (y :: ats) ++ r0 = y :: (ats ++ r0) from rfl, h4] at h0
        obtain ⟨C', g1, g2, g3, g4, g5⟩ := ih (pre ++ [y]) { C1 with ahead := y.op } (fun z hz => ht z (by simp [hz])) (by simp [hty]) (by rw [← hat]) (by
          rw [List.map_append, List.nodup_append]
          refine ⟨h1, by simp, ?_⟩
          intro a ha b hb
          simp at hb
          subst hb
          exact fun e => hny (e ▸ ha)) (by simp; omega) h0
        refine ⟨C', by rw [g1]; exact hpl, ?_, by simpa using g3, by simpa using g4, ?_⟩
        · rw [show (y :: ats) ++ r0 = y :: (ats ++ r0) from rfl, h4]; exact g2
        · intro z hz
          rcases List.mem_cons.1 hz with rfl | hz
          · exact hm
          · exact g5 z hz
theorem atA_nodup {l : List Attr} (h : (l.map Attr.name).Nodup) {i : Nat} (hi : i < l.length) : atA l l[i].name = i := by
  refine idx_at (List.getElem?_eq_getElem hi) (by simp) fun j hj x hx => ?_
  have hjl : j < l.length := by omega
  rw [List.getElem?_eq_getElem hjl] at hx
  injection hx with hx
  subst hx
  have := List.pairwise_iff_getElem.1 h j i (by simpa using hjl) (by simpa using hi) hj
  simpa using this
theorem mayAttrs_of {l : List Attr} (h8 : l.length ≤ 8) (hn : (l.map Attr.name).Nodup) (hm : ∀ a ∈ l, mayName a.name = true ∧ mayText a.value = true) : mayAttrs l = true := by
  unfold mayAttrs
  rw [Bool.and_eq_true]
  refine ⟨by simpa using h8, List.all_eq_true.2 fun i hi => ?_⟩
  have hi : i < l.length := by simpa using hi
  rw [List.getElem?_eq_getElem hi]
  simp only
  have := hm l[i] (List.getElem_mem hi)
  rw [this.1, this.2, atA_nodup hn hi]
  simp
theorem tells_may {ats : List Ins} (ht : ∀ y ∈ ats, isTell y.op = true) (hm : ∀ y ∈ ats, mayIns y = true) (hn : (ats.map Ins.a).Nodup) (h8 : ats.length ≤ 8) : mayAttrs (ats.map insA) = true := by
  refine mayAttrs_of (by simpa using h8) (by rw [List.map_map]; exact hn) fun a ha => ?_
  obtain ⟨y, hy, rfl⟩ := List.mem_map.1 ha
  have h1 := hm y hy
  have h2 : y.op = 5 ∨ y.op = 6 := by have := ht y hy; simpa [isTell] using this
  have h3 : ¬ y.op = 1 ∧ ¬ y.op = 3 ∧ ¬ y.op = 4 := by omega
  simp only [mayIns, h3.1, h3.2.1, h3.2.2, if_false, h2, if_true, Bool.and_eq_true] at h1
  exact h1
theorem void_name {b : ByteArray} (h : voidN b = true) : mayName b = true := by
  simp only [voidN, Bool.or_eq_true, decide_eq_true_eq] at h
  rcases h with ((rfl | rfl) | rfl) | rfl <;> decide +kernel
theorem stand_step {C : Chk} {x : Ins} {m : List Ins} {qs : List Pl} {t : Pl} (hp : C.pls = qs ++ [t]) (hm : mayIns x = true) (ht : isTell x.op = false) (h2 : ¬ x.op = 2) (h : (runC C (x :: m)).1 = 0) :
    t.all = false ∧ (isEl x.op = true → x.b ≠ ⟨#[]⟩ → ¬ 0 < icnt x.b t.keys) ∧
      runC C (x :: m) = runC ⟨qs ++ [⟨if isEl x.op then inc x.b t.keys else t.keys, decide (x.op = 7)⟩] ++ (if x.op = 1 then [⟨[], false⟩] else []), x.op, if isEl x.op then [] else C.names⟩ m := by
  obtain ⟨h3, h4⟩ := run_zero h
  have ho : oneC C x = standsC C x := by simp [oneC, hm, ht, h2]
  have hl : C.pls.getLast? = some t := by rw [hp]; simp
  have hd : C.pls.dropLast = qs := by rw [hp]; simp
  rw [ho] at h3 h4
  unfold standsC at h3 h4
  rw [hl] at h3 h4
  simp only at h3 h4
  by_cases h5 : t.all = true
  · rw [if_pos h5] at h3; simp at h3
  · rw [if_neg h5] at h3 h4
    by_cases h6 : ((isEl x.op && !decide (x.b = ⟨#[]⟩)) && decide (0 < icnt x.b t.keys)) = true
    · rw [if_pos h6] at h3; simp at h3
    · rw [if_neg h6] at h3 h4
      by_cases h7 : x.op = 1 ∧ 8 < C.pls.length
      · rw [if_pos h7] at h3; simp at h3
      · rw [if_neg h7] at h3 h4
        refine ⟨by simpa using h5, fun h8 h9 h10 => h6 (by simp [h8, h9, h10]), ?_⟩
        rw [h4, hd]
structure Ran (t : Pl) (ws : List Want) : Prop where
  all : t.all = true → ws = []
  one : ∀ w ∈ ws, Ok1 w
  kids : ∀ w ∈ ws, OkL w.kids
  last : LastAll ws
  nd : KeysNd ws
  key : ∀ k, k ≠ ⟨#[]⟩ → icnt k t.keys = 1 → ∀ w ∈ ws, w.kind = 1 → w.key ≠ k
theorem Ran.okl {t : Pl} {ws : List Want} (h : Ran t ws) : OkL ws := .mk ws h.one h.kids h.last h.nd
theorem K01.inc {m : IM} (h : K01 m) {s : ByteArray} (hs : s ≠ ⟨#[]⟩ → ¬ 0 < icnt s m) : K01 (inc s m) := by
  intro k hk
  by_cases hsk : s = k
  · subst hsk
    have h0 : icnt s m = 0 := by have := hs hk; rcases h s hk with h | h <;> omega
    rw [inc_zero h0, if_pos rfl]; exact .inr rfl
  · rw [inc_other hsk]; exact h k hk
/-- One more stands ahead. -/
theorem Ran.cons {t : Pl} {w : Want} {ws : List Want} {x : Ins} (hk : K01 t.keys) (ha : t.all = false) (hb : isEl x.op = true → x.b ≠ ⟨#[]⟩ → ¬ 0 < icnt x.b t.keys)
    (h : Ran ⟨if isEl x.op then inc x.b t.keys else t.keys, decide (x.op = 7)⟩ ws) (h1 : Ok1 w) (h2 : OkL w.kids) (hw1 : w.kind = 1 ↔ isEl x.op = true) (hwk : w.kind = 1 → w.key = x.b) (hw4 : w.kind = 4 → x.op = 7) : Ran t (w :: ws) where
  all := fun h => by rw [ha] at h; cases h
  one := fun v hv => by
    rcases List.mem_cons.1 hv with rfl | hv
    · exact h1
    · exact h.one v hv
  kids := fun v hv => by
    rcases List.mem_cons.1 hv with rfl | hv
    · exact h2
    · exact h.kids v hv
  last := ⟨fun h4 => h.all (by simpa using hw4 h4), h.last⟩
  nd := ⟨fun k1 kne v hv v1 => by
    have he := hw1.1 k1
    have hkx := hwk k1
    rw [hkx] at kne ⊢
    have h0 : icnt x.b t.keys = 0 := by have := hb he kne; rcases hk x.b kne with h | h <;> omega
    exact h.key x.b kne (by simp only [he, if_true]; rw [inc_zero h0, if_pos rfl]) v hv v1, h.nd⟩
  key := fun k kne k1 v hv v1 => by
    rcases List.mem_cons.1 hv with rfl | hv
    · intro hvk
      have he := hw1.1 v1
      rw [hwk v1] at hvk
      subst hvk
      exact hb he kne (by omega)
    · refine h.key k kne ?_ v hv v1
      by_cases he : isEl x.op = true
      · simp only [he, if_true]
        by_cases hxk : x.b = k
        · subst hxk; exact absurd (by omega) (hb he kne)
        · rw [inc_other hxk]; exact k1
      · simp only [he]; exact k1
theorem blk_run {l : List Ins} {ws : List Want} (hb : Blk l ws) : ∀ (C : Chk) (qs : List Pl) (t : Pl) (r0 : List Ins), C.pls = qs ++ [t] → K01 t.keys → (runC C (l ++ r0)).1 = 0 →
    ∃ (C' : Chk) (t' : Pl), C'.pls = qs ++ [t'] ∧ runC C (l ++ r0) = runC C' r0 ∧ Ran t ws := by
  induction hb with
  | nil => intro C qs t r0 hp hk h; exact ⟨C, t, hp, rfl, ⟨fun _ => rfl, by simp, by simp, trivial, trivial, by simp⟩⟩
  | text x r ws hm h hr b ih =>
    intro C qs t r0 hp hk h0
    have he : isEl x.op = false := by simp [isEl, h]
    obtain ⟨g1, g2, g3⟩ := stand_step (m := r ++ r0) hp hm (by simp [isTell, h]) (by omega) h0
    have g0 := h0
    rw [List.cons_append, g3] at g0
    obtain ⟨C', t', k1, k2, k3⟩ := ih _ qs ⟨if isEl x.op then inc x.b t.keys else t.keys, decide (x.op = 7)⟩ r0 (by simp [h]) (by simp only [he]; exact hk) g0
    refine ⟨C', t', k1, by rw [List.cons_append, g3, k2], k3.cons hk g1 g2 ⟨by simp [Want.kind], by simp [Want.kind], ?_, by simp [Want.kind, Want.tag, Want.key, Want.attrs, Want.kids], by simp [Want.kind]⟩ ?_ (by simp [Want.kind, he]) (by simp [Want.kind]) (by simp [Want.kind])⟩
    · intro _
      simp [mayIns, h] at hm
      exact hm.1
    · exact .mk [] (by simp) (by simp) trivial trivial
  | node x r ws hm h hr b ih =>
    intro C qs t r0 hp hk h0
    have he : isEl x.op = false := by simp [isEl, h]
    obtain ⟨g1, g2, g3⟩ := stand_step (m := r ++ r0) hp hm (by simp [isTell, h]) (by omega) h0
    have g0 := h0
    rw [List.cons_append, g3] at g0
    obtain ⟨C', t', k1, k2, k3⟩ := ih _ qs ⟨if isEl x.op then inc x.b t.keys else t.keys, decide (x.op = 7)⟩ r0 (by simp [h]) (by simp only [he]; exact hk) g0
    refine ⟨C', t', k1, by rw [List.cons_append, g3, k2], k3.cons hk g1 g2 ⟨by simp [Want.kind], by simp [Want.kind], by simp [Want.kind], by simp [Want.kind, Want.tag, Want.key, Want.attrs, Want.kids], by simp [Want.text]⟩ ?_ (by simp [Want.kind, he]) (by simp [Want.kind]) (by simp [Want.kind])⟩
    exact .mk [] (by simp) (by simp) trivial trivial
  | all x r ws hm h hr b ih =>
    intro C qs t r0 hp hk h0
    have he : isEl x.op = false := by simp [isEl, h]
    obtain ⟨g1, g2, g3⟩ := stand_step (m := r ++ r0) hp hm (by simp [isTell, h]) (by omega) h0
    have g0 := h0
    rw [List.cons_append, g3] at g0
    obtain ⟨C', t', k1, k2, k3⟩ := ih _ qs ⟨if isEl x.op then inc x.b t.keys else t.keys, decide (x.op = 7)⟩ r0 (by simp [h]) (by simp only [he]; exact hk) g0
    refine ⟨C', t', k1, by rw [List.cons_append, g3, k2], k3.cons hk g1 g2 ⟨by simp [Want.kind], by simp [Want.kind], by simp [Want.kind], by simp [Want.kind, Want.tag, Want.key, Want.attrs, Want.kids], by simp [Want.text]⟩ ?_ (by simp [Want.kind, he]) (by simp [Want.kind]) (by simp [h])⟩
    exact .mk [] (by simp) (by simp) trivial trivial
  | void x ats r ws hm h ha hr b ih =>
    intro C qs t r0 hp hk h0
    have he : isEl x.op = true := by simp [isEl, h]
    rw [List.cons_append, List.append_assoc] at h0
    obtain ⟨g1, g2, g3⟩ := stand_step hp hm (by simp [isTell, h]) (by omega) h0
    have g0 := h0
    rw [g3] at g0
    obtain ⟨C1, a1, a2, a3, a4, a5⟩ := attrs_run (r ++ r0) ats [] _ ha (by simp [he]) (by simp [he]; rfl) (by simp) (by simp) g0
    have g0' := g0
    rw [a2] at g0'
    obtain ⟨C', t', k1, k2, k3⟩ := ih C1 qs ⟨if isEl x.op then inc x.b t.keys else t.keys, decide (x.op = 7)⟩ r0 (by rw [a1]; simp [h]) (by simp only [he, if_true]; exact hk.inc (g2 he)) g0'
    have hmm : voidN x.a = true ∧ mayText x.b = true := by simpa [mayIns, h] using hm
    refine ⟨C', t', k1, by rw [List.cons_append, List.append_assoc, g3, a2, k2], k3.cons hk g1 g2 ⟨by simp [Want.kind], ?_, by simp [Want.kind], by simp [Want.kind], by simp [Want.text]⟩ ?_ (by simp [Want.kind, he]) (by simp [Want.key]) (by simp [Want.kind])⟩
    · intro _
      exact ⟨void_name hmm.1, hmm.2, tells_may ha a5 (by simpa using a3) (by simpa using a4), fun _ => rfl⟩
    · exact .mk [] (by simp) (by simp) trivial trivial
  | elem x ats body c r ks ws hm h ha hb b1 hc hcm hr b2 ih1 ih2 =>
    intro C qs t r0 hp hk h0
    have he : isEl x.op = true := by simp [isEl, h]
    have e1 : (x :: (ats ++ (body ++ c :: r))) ++ r0 = x :: (ats ++ (body ++ (c :: (r ++ r0)))) := by simp
    rw [e1] at h0 ⊢
    obtain ⟨g1, g2, g3⟩ := stand_step hp hm (by simp [isTell, h]) (by omega) h0
    have g0 := h0
    rw [g3] at g0
    obtain ⟨C1, a1, a2, a3, a4, a5⟩ := attrs_run (body ++ (c :: (r ++ r0))) ats [] _ ha (by simp [he]) (by simp [he]; rfl) (by simp) (by simp) g0
    rw [a2] at g0
    obtain ⟨C2, t2, k1, k2, k3⟩ := ih1 C1 (qs ++ [⟨if isEl x.op then inc x.b t.keys else t.keys, decide (x.op = 7)⟩]) ⟨[], false⟩ (c :: (r ++ r0)) (by rw [a1]; simp [h]) (by intro k _; exact .inl rfl) g0
    rw [k2] at g0
    obtain ⟨c1, c2⟩ := run_zero g0
    have hlen : ¬ C2.pls.length = 1 := by rw [k1]; simp
    have hone : oneC C2 c = (0, { C2 with pls := C2.pls.dropLast }) := by
      have : isTell (2 : Int) = false := by decide
      simp [oneC, hcm, this, hc, hlen]
    rw [hone] at c2
    rw [c2] at g0
    obtain ⟨C', t', m1, m2, m3⟩ := ih2 _ qs ⟨if isEl x.op then inc x.b t.keys else t.keys, decide (x.op = 7)⟩ r0 (by simp [k1]) (by simp only [he, if_true]; exact hk.inc (g2 he)) g0
    have hmm : (mayName x.a = true ∧ voidN x.a = false) ∧ mayText x.b = true := by simpa [mayIns, h] using hm
    refine ⟨C', t', m1, by rw [g3, a2, k2, c2, m2], m3.cons hk g1 g2 ⟨by simp [Want.kind], ?_, by simp [Want.kind], by simp [Want.kind], by simp [Want.text]⟩ k3.okl (by simp [Want.kind, he]) (by simp [Want.key]) (by simp [Want.kind])⟩
    intro _
    exact ⟨hmm.1.1, hmm.2, tells_may ha a5 (by simpa using a3) (by simpa using a4), fun hv => by rw [show (Want.mk 1 x.a x.b ⟨#[]⟩ (ats.map insA) ks).tag = x.a from rfl, hmm.1.2] at hv; cases hv⟩
theorem ok_of {l : List Ins} (h : chkP l = 0) : OkL (someP l).1 := by
  have hb := blk_of h
  unfold chkP at h
  split at h
  · cases h
  · split at h
    · rename_i h0
      obtain ⟨-, -, -, -, hr⟩ := blk_run hb chk0 [] ⟨[], false⟩ [] rfl (fun k _ => .inl rfl) (by simpa using h0)
      exact hr.okl
    · rename_i h0; exact absurd h h0
end Go.HL
