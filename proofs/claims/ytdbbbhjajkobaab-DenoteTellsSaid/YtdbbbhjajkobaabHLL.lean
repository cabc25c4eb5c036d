/- HL, part L: a function's code, told plainly. -/
import Derived.Test.YtdbbbhjajkobaabHLO
set_option linter.unusedVariables false
set_option linter.unusedSimpArgs false
namespace Go.HL
open Go.RowKit
variable {P : Program} {w0 w : World} {M : Mem} {σ : Store}

def updo (e : Env) (t : Option Tmp) (d : D) : Env := match t with
  | some t => upd e t d
  | none => e
/-- Is a guarded operation carried out? -/
def guardD (all : List Oper) (g : Option (Nat × Bool)) (e : Env) (run skip : Prop) : Prop :=
  match g with
  | none => run
  | some (j, want) => match (all[j]?).bind (·.dst) with
    | none => skip
    | some t => match e t with
      | .lit (.bool b) => if want then (b = true → run) ∧ (b = false → skip) else (b = false → run) ∧ (b = true → skip)
      | .lit (.tuple _) => skip
      | _ => False
def hops (P : Program) (lm : Bool) (all : List Oper) : List Oper → Env → Store → (Env → Store → Prop) → Prop
  | [], e, s, N => N e s
  | o :: r, e, s, N => guardD all o.guard e (hop P lm o.op e s fun d s' => hops P lm all r (updo e o.dst d) s' N) (hops P lm all r (updo e o.dst (.lit undef)) s N)

structure Kont where
  n : Env → Store → Prop
  r : Env → Store → Prop
  x : Nat → Env → Store → Prop

def hloop (body : Kont → Env → Store → Prop) (K : Kont) (e : Env) (s : Store) : Prop :=
  ∃ I : Nat → Env → Store → Prop, (∃ n s', SLe s' s ∧ I n e s') ∧ ∀ n e s, I n e s → body { K with n := fun e' s' => ∃ m s'', m < n ∧ SLe s'' s' ∧ I m e' s'' } e s

/-- A region that draws its order: whatever comes up next. -/
def hAny (P : Program) (lm : Bool) (ops : Array Oper) : Nat → Array Bool → Env → Store → (Env → Store → Prop) → Prop
  | 0, listed, e, s, N => Region.ready .any ops listed = [] ∧ N e s
  | fuel + 1, listed, e, s, N => (Region.ready .any ops listed = [] → N e s) ∧ ∀ i ∈ Region.ready .any ops listed, match ops[i]? with
    | none => hAny P lm ops fuel (listed.setIfInBounds i true) e s N
    | some o => guardD ops.toList o.guard e (hop P lm o.op e s fun d s' => hAny P lm ops fuel (listed.setIfInBounds i true) (updo e o.dst d) s' N) (hAny P lm ops fuel (listed.setIfInBounds i true) (updo e o.dst (.lit undef)) s N)
/-! A region that draws its order, told in the order of its text: what reads is asked at the start. -/
def gdst (all : List Oper) (g : Option (Nat × Bool)) : List Nat := match g with
  | none => []
  | some (j, _) => match (all[j]?).bind (·.dst) with
    | some t => [t]
    | none => []
def readsOf (all : List Oper) (o : Oper) : List Nat := tmpsOf o.op ++ gdst all o.guard
/-- Neither asks for what the other leaves. -/
def apart (P : Program) (lm : Bool) (all : List Oper) (a b : Oper) : Bool :=
  (match a.dst, b.dst with
    | some x, some y => x != y
    | _, _ => true) && (match a.dst with | some x => !(readsOf all b).contains x | none => true) && (match b.dst with | some y => !(readsOf all a).contains y | none => true) && (calm P lm a.op || calm P lm b.op)
/-- What stands ahead of an operation in every order, from what stands ahead of the earlier ones. -/
def ancOf (acc : List Nat) (l : List Edge) : Nat := l.foldr (fun e m => (1 <<< e.on ||| acc.getD e.on 0) ||| m) 0
def ancs : List Oper → List Nat → List Nat
  | [], acc => acc
  | o :: r, acc => ancs r (acc ++ [ancOf acc (o.after.toList.filter (Region.binds .any))])
def pairsOk (P : Program) (lm : Bool) (all : List Oper) (A : List Nat) : Bool :=
  (List.range all.length).all fun k => (List.range k).all fun j => (A.getD k 0).testBit j || (match all[j]?, all[k]? with | some a, some b => apart P lm all a b | _, _ => true)
def drawOk (P : Program) (lm : Bool) (all : List Oper) : Bool :=
  (List.range all.length).all (fun i => match all[i]? with | some o => o.after.toList.all fun e => !Region.binds .any e || decide (e.on < i) | none => true) && pairsOk P lm all (ancs all [])
def stepD (P : Program) (lm : Bool) (σ0 : Store) (o : Op) (e : Env) (s : Store) (K : D → Store → Prop) : Prop :=
  if calm P lm o then hop P lm o e σ0 (fun d _ => K d s) else hop P lm o e s (fun d s' => SLe σ0 s' ∧ K d s')
def hseq (P : Program) (lm : Bool) (σ0 : Store) (all : List Oper) : List Oper → Env → Store → (Env → Store → Prop) → Prop
  | [], e, s, N => N e s
  | o :: r, e, s, N => guardD all o.guard e (stepD P lm σ0 o.op e s fun d s' => hseq P lm σ0 all r (updo e o.dst d) s' N) (hseq P lm σ0 all r (updo e o.dst (.lit undef)) s N)
/-- All ahead of this place stands ahead of all from it on. -/
def cutOk (all : List Oper) (A : List Nat) (c : Nat) : Bool := decide (c ≤ all.length) && (List.range all.length).all fun k => decide (k < c) || (List.range c).all fun i => (A.getD k 0).testBit i
def hdraw (P : Program) (lm : Bool) (ops : Array Oper) (e : Env) (s : Store) (N : Env → Store → Prop) : Prop :=
  hAny P lm ops ops.size (Array.replicate ops.size false) e s N ∨ (drawOk P lm ops.toList = true ∧ ∃ c σ0, cutOk ops.toList (ancs ops.toList []) c = true ∧ SLe σ0 s ∧ hseq P lm σ0 ops.toList (ops.toList.take c) e s fun e s => ∃ σ1, SLe σ1 s ∧ hseq P lm σ1 ops.toList (ops.toList.drop c) e s N)

def hwp (P : Program) (lm : Bool) : Code → Kont → Env → Store → Prop
  | .skip, K, e, s => K.n e s
  | .region _ ops draw, K, e, s => if draw then hdraw P lm ops e s K.n else hops P lm ops.toList ops.toList e s K.n
  | .seq a b, K, e, s => hwp P lm a { K with n := fun e s => hwp P lm b K e s } e s
  | .cond c a b, K, e, s => hcond (ev e c) (hwp P lm a K e s) (hwp P lm b K e s)
  | .block id c, K, e, s => hwp P lm c { K with x := fun i e s => if i = id then K.n e s else K.x i e s } e s
  | .loop c, K, e, s => hloop (hwp P lm c) K e s
  | .exit id, K, e, s => K.x id e s
  | .ret, K, e, s => K.r e s
  | _, _, _, _ => False

def operOk (N : Nat) (o : Oper) : Bool := opOk N o.op && (match o.dst with | some t => decide (t < N) | none => true)
def codeOk (N : Nat) : Code → Bool
  | .region _ ops _ => ops.toList.all (operOk N)
  | .seq a b => codeOk N a && codeOk N b
  | .cond c a b => opndOk N c && codeOk N a && codeOk N b
  | .block _ c => codeOk N c
  | .loop c => codeOk N c
  | _ => true

/-! ### It is so of the machine -/
def hpost (w0 : World) (N : Nat) (M : Mem) (K : Kont) : Exit → Act → World → Prop
  | .normal, a, w => ∃ M' e s, MLe M M' ∧ Sim w0 M' s w ∧ EnvOk M' a.tmps e ∧ a.tmps.size = N ∧ a.defers = [] ∧ K.n e s
  | .ret, a, w => ∃ M' e s, MLe M M' ∧ Sim w0 M' s w ∧ EnvOk M' a.tmps e ∧ a.tmps.size = N ∧ a.defers = [] ∧ K.r e s
  | .exit id, a, w => ∃ M' e s, MLe M M' ∧ Sim w0 M' s w ∧ EnvOk M' a.tmps e ∧ a.tmps.size = N ∧ a.defers = [] ∧ K.x id e s
  | _, _, _ => False

theorem hpost_mono {N : Nat} {M M' : Mem} (hM : MLe M M') {K : Kont} {ex : Exit} {a : Act} {w : World} (h : hpost w0 N M' K ex a w) : hpost w0 N M K ex a w := by
  cases ex <;> first
    | exact h
    | (obtain ⟨M2, e, s, h1, h2⟩ := h; exact ⟨M2, e, s, hM.trans h1, h2⟩)

theorem put_size (a : Act) (t : Option Tmp) (v : Value) : (a.put t v).tmps.size = a.tmps.size := by cases t <;> simp [Act.put]
theorem put_defers (a : Act) (t : Option Tmp) (v : Value) : (a.put t v).defers = a.defers := by cases t <;> rfl
theorem EnvOk.put {a : Act} {e : Env} (h : EnvOk M a.tmps e) (t : Option Tmp) (v : Value) (d : D) (hd : Den M v d) : EnvOk M (a.put t v).tmps (updo e t d) := by
  cases t with
  | none => exact h
  | some t =>
    intro x hx
    simp only [Act.put, Array.size_setIfInBounds] at hx
    simp only [updo, upd]
    by_cases hxt : x = t
    · subst hxt
      rw [if_pos rfl]
      have : ((a.put (some x) v).tmps.getD x undef) = v := by simp [Act.put, Array.getD, hx]
      rw [this]; exact hd
    · rw [if_neg hxt]
      have : ((a.put (some t) v).tmps.getD x undef) = a.tmps.getD x undef := by
        simp only [Act.put, Array.getD_eq_getD_getElem?]
        rw [Array.getElem?_setIfInBounds_ne (fun e => hxt e.symm)]
      rw [this]; exact h x hx

/-- The guard as the machine asks it. -/
theorem guard_sound {ops : Array Oper} {a : Act} {e : Env} (he : EnvOk M a.tmps e) (hok : ∀ o ∈ ops, operOk a.tmps.size o = true) (o : Oper) {run skip : Prop} (h : guardD ops.toList o.guard e run skip) :
    (Region.wanted o (yielded ops a.tmps) = true ∧ run) ∨ (Region.wanted o (yielded ops a.tmps) = false ∧ skip) := by
  unfold guardD at h
  split at h
  · rename_i hg; exact .inl ⟨by simp [Region.wanted, hg], h⟩
  · rename_i j want hg
    split at h
    · rename_i hn
      rw [Array.getElem?_toList] at hn
      refine .inr ⟨?_, h⟩
      simp [Region.wanted, hg, yielded, hn]
    · rename_i t ht
      rw [Array.getElem?_toList] at ht
      obtain ⟨oj, hoj, hdst⟩ := Option.bind_eq_some_iff.1 ht
      have hlt : t < a.tmps.size := by
        have := hok oj (Array.mem_of_getElem? hoj)
        simp only [operOk, hdst, Bool.and_eq_true, decide_eq_true_eq] at this
        exact this.2
      have hd := he t hlt
      have hy : yielded ops a.tmps j = match a.tmps.getD t undef with | .bool b => some b | _ => none := by
        simp only [yielded, ht, Option.bind_some, Array.getElem?_eq_getElem hlt, Array.getD, hlt, dif_pos]
        split
        · rename_i b hb; injection hb with hb; simp [hb]
        · rename_i hb
          split
          · rename_i b hb2; exact (hb b (congrArg some hb2)).elim
          · rfl
      split at h
      · rename_i b hb
        rw [hb] at hd
        have := den_lit_inv hd
        rw [this] at hy
        simp only at hy
        cases want <;> cases b <;> simp [Region.wanted, hg, hy] at h ⊢ <;> exact h
      · rename_i x hb
        rw [hb] at hd
        have := den_lit_inv hd
        rw [this] at hy
        exact .inr ⟨by simp [Region.wanted, hg, hy], h⟩
      · exact h.elim

theorem oper_wp_mono {o : Oper} {a : Act} {w : World} {K K' : Act → World → Prop} {Q : Exit → Act → World → Prop} (h : ∀ a w, K a w → K' a w) (hh : o.wp P a w K Q) : o.wp P a w K' Q := Oper.wp_mono h hh

theorem hops_sound {ops : Array Oper} (lm : Bool) {N : Nat} (hok : ∀ o ∈ ops, operOk N o = true) (M0 : Mem) (K : Kont) : ∀ (r : List Oper) (hr : ∀ o ∈ r, o ∈ ops) (a : Act) (w : World) (M : Mem) (e : Env) (s : Store), MLe M0 M → Sim w0 M s w → EnvOk M a.tmps e → a.tmps.size = N → a.defers = [] →
    hops P lm ops.toList r e s K.n → wpList P ops (hpost w0 N M0 K) r a w := by
  intro r
  induction r with
  | nil =>
    intro hr a w M e s hM hs he hN hd h
    exact ⟨M, e, s, hM, hs, he, hN, hd, h⟩
  | cons o r ih =>
    intro hr a w M e s hM hs he hN hd h
    have hoo := hr o (by simp)
    have ho := hok o hoo
    subst hN
    rcases guard_sound he hok o h with ⟨hw, h⟩ | ⟨hw, h⟩
    · simp only [wpList, hw, if_true]
      refine .inl (oper_wp_mono ?_ (hop_sound hs he lm o (by simp only [operOk, Bool.and_eq_true] at ho; exact ho.1) h _))
      rintro a' w' ⟨v, M', d, σ', rfl, h1, h2, h3, h4⟩
      exact ih (fun o ho => hr o (by simp [ho])) _ w' M' _ σ' (hM.trans h1) h2 ((he.mono h1).put _ v d h3) (put_size _ _ _) (by rw [put_defers]; exact hd) h4
    · simp only [wpList, hw, Bool.false_eq_true, if_false]
      exact ih (fun o ho => hr o (by simp [ho])) _ w M _ s hM hs (he.put _ _ _ (.lit _)) (put_size _ _ _) (by rw [put_defers]; exact hd) h

/-! ### The order of the text does for every order -/
section Draw
variable {lm : Bool} {σ0 : Store} {all : List Oper}
/-- One operation, guard and all. -/
def G (P : Program) (lm : Bool) (σ0 : Store) (all : List Oper) (o : Oper) (e : Env) (s : Store) (F : Env → Store → Prop) : Prop :=
  guardD all o.guard e (stepD P lm σ0 o.op e s fun d s' => F (updo e o.dst d) s') (F (updo e o.dst (.lit undef)) s)
theorem hseq_cons (o : Oper) (r : List Oper) (e : Env) (s : Store) (N : Env → Store → Prop) : hseq P lm σ0 all (o :: r) e s N = G P lm σ0 all o e s (fun e s => hseq P lm σ0 all r e s N) := rfl
theorem guardD_cases {g : Option (Nat × Bool)} {e : Env} {run skip : Prop} (h : guardD all g e run skip) :
    (run ∧ ∀ e' : Env, (∀ t ∈ gdst all g, e' t = e t) → ∀ r s : Prop, guardD all g e' r s ↔ r) ∨ (skip ∧ ∀ e' : Env, (∀ t ∈ gdst all g, e' t = e t) → ∀ r s : Prop, guardD all g e' r s ↔ s) := by
  unfold guardD at h
  split at h
  · exact .inl ⟨h, fun e' _ r s => Iff.rfl⟩
  · rename_i j want
    split at h
    · rename_i hn
      refine .inr ⟨h, fun e' _ r s => ?_⟩
      simp only [guardD, hn]
    · rename_i t ht
      have hg : gdst all (some (j, want)) = [t] := by simp only [gdst, ht]
      split at h
      · rename_i b hb
        cases want <;> cases b <;> simp at h
        · refine .inl ⟨h, fun e' he r s => ?_⟩
          have := he t (by rw [hg]; simp)
          simp [guardD, ht, this, hb]
        · refine .inr ⟨h, fun e' he r s => ?_⟩
          have := he t (by rw [hg]; simp)
          simp [guardD, ht, this, hb]
        · refine .inr ⟨h, fun e' he r s => ?_⟩
          have := he t (by rw [hg]; simp)
          simp [guardD, ht, this, hb]
        · refine .inl ⟨h, fun e' he r s => ?_⟩
          have := he t (by rw [hg]; simp)
          simp [guardD, ht, this, hb]
      · rename_i vs hb
        refine .inr ⟨h, fun e' he r s => ?_⟩
        have := he t (by rw [hg]; simp)
        simp [guardD, ht, this, hb]
      · exact h.elim
theorem stepD_mono {o : Op} {e : Env} {s : Store} {K K' : D → Store → Prop} (hk : ∀ d s, K d s → K' d s) (h : stepD P lm σ0 o e s K) : stepD P lm σ0 o e s K' := by
  unfold stepD at h ⊢
  split
  · rename_i hc; rw [if_pos hc] at h; exact hop_mono (fun d _ => hk d s) h
  · rename_i hc; rw [if_neg hc] at h; exact hop_mono (fun d s' h => ⟨h.1, hk d s' h.2⟩) h
theorem stepD_frame {o : Op} {e e' : Env} {s : Store} {K : D → Store → Prop} (he : ∀ t ∈ tmpsOf o, e t = e' t) : stepD P lm σ0 o e s K = stepD P lm σ0 o e' s K := by
  unfold stepD
  rw [hop_frame he, hop_frame he]
/-- The same from another store of places, if what it reads is the same. -/
theorem G_frame {o : Oper} {e e' : Env} {s : Store} {F F' : Env → Store → Prop} (he : ∀ t ∈ readsOf all o, e' t = e t) (hF : ∀ d s', F (updo e o.dst d) s' → F' (updo e' o.dst d) s') (h : G P lm σ0 all o e s F) : G P lm σ0 all o e' s F' := by
  have hg : ∀ t ∈ gdst all o.guard, e' t = e t := fun t ht => he t (by simp [readsOf, ht])
  have ho : ∀ t ∈ tmpsOf o.op, e t = e' t := fun t ht => (he t (by simp [readsOf, ht])).symm
  unfold G at h ⊢
  rcases guardD_cases h with ⟨h, hc⟩ | ⟨h, hc⟩
  · rw [hc e' hg]
    rw [stepD_frame ho] at h
    exact stepD_mono (fun d s' h => hF d s' h) h
  · rw [hc e' hg]
    exact hF _ _ h
/-- Its value is fixed. -/
def Fixed (P : Program) (lm : Bool) (σ0 : Store) (all : List Oper) (o : Oper) (e : Env) (d : D) : Prop :=
  ∀ (e' : Env) (s' : Store) (F : Env → Store → Prop), (∀ t ∈ readsOf all o, e' t = e t) → (F (updo e' o.dst d) s' ↔ G P lm σ0 all o e' s' F)
theorem Fixed.frame {o : Oper} {e e' : Env} {d : D} (h : Fixed P lm σ0 all o e d) (he : ∀ t ∈ readsOf all o, e' t = e t) : Fixed P lm σ0 all o e' d :=
  fun e2 s2 F h2 => h e2 s2 F fun t ht => (h2 t ht).trans (he t ht)
theorem fixed_of {o : Oper} (hc : calm P lm o.op = true) {e : Env} {s : Store} {F : Env → Store → Prop} (h : G P lm σ0 all o e s F) : ∃ d, Fixed P lm σ0 all o e d := by
  unfold G at h
  rcases guardD_cases h with ⟨h, hg⟩ | ⟨h, hg⟩
  · unfold stepD at h
    rw [if_pos hc] at h
    obtain ⟨z, h1, h2⟩ := hop_one (K0 := fun d => F (updo e o.dst d) s) hc h
    refine ⟨z, fun e' s' F' he => ?_⟩
    have hgg : ∀ t ∈ gdst all o.guard, e' t = e t := fun t ht => he t (by simp [readsOf, ht])
    have ho : ∀ t ∈ tmpsOf o.op, e' t = e t := fun t ht => he t (by simp [readsOf, ht])
    unfold G
    rw [hg e' hgg]
    unfold stepD
    rw [if_pos hc, hop_frame ho]
    exact ⟨fun hF => h1 σ0 (fun d => F' (updo e' o.dst d) s') (SLe.refl _) hF, fun hF => h2 (fun d => F' (updo e' o.dst d) s') hF⟩
  · refine ⟨.lit undef, fun e' s' F' he => ?_⟩
    have hgg : ∀ t ∈ gdst all o.guard, e' t = e t := fun t ht => he t (by simp [readsOf, ht])
    unfold G
    rw [hg e' hgg]
theorem updo_other {e : Env} {t : Option Nat} {d : D} {x : Nat} (h : ∀ y, t = some y → x ≠ y) : updo e t d x = e x := by
  cases t with
  | none => rfl
  | some y => simp [updo, upd, h y rfl]
theorem updo_comm {e : Env} {a b : Option Nat} {x y : D} (h : ∀ p q, a = some p → b = some q → p ≠ q) : updo (updo e a x) b y = updo (updo e b y) a x := by
  cases a with
  | none => rfl
  | some p => cases b with
    | none => rfl
    | some q =>
      have := h p q rfl rfl
      funext t
      simp only [updo, upd]
      by_cases h1 : t = q <;> by_cases h2 : t = p <;> simp [h1, h2] <;> omega
structure Apart (P : Program) (lm : Bool) (all : List Oper) (a b : Oper) : Prop where
  dst : ∀ p q, a.dst = some p → b.dst = some q → p ≠ q
  ab : ∀ p, a.dst = some p → ∀ t ∈ readsOf all b, t ≠ p
  ba : ∀ q, b.dst = some q → ∀ t ∈ readsOf all a, t ≠ q
  eff : calm P lm a.op = true ∨ calm P lm b.op = true
theorem apart_of {a b : Oper} (h : apart P lm all a b = true) : Apart P lm all a b := by
  unfold apart at h
  simp only [Bool.and_eq_true, Bool.or_eq_true] at h
  obtain ⟨⟨⟨h1, h2⟩, h3⟩, h4⟩ := h
  refine ⟨fun p q hp hq => ?_, fun p hp t ht => ?_, fun q hq t ht => ?_, h4⟩
  · rw [hp, hq] at h1; simpa using h1
  · rw [hp] at h2
    rintro rfl
    simp [ht] at h2
  · rw [hq] at h3
    rintro rfl
    simp [ht] at h3
/-- A calm one is taken out of the list. -/
theorem removeC {k : Oper} {dk : D} (N : Env → Store → Prop) (L2 : List Oper) : ∀ (L1 : List Oper) (e : Env) (s : Store), (∀ a ∈ L1, Apart P lm all a k) → Fixed P lm σ0 all k e dk → hseq P lm σ0 all (L1 ++ k :: L2) e s N → hseq P lm σ0 all (L1 ++ L2) (updo e k.dst dk) s N := by
  intro L1
  induction L1 with
  | nil => intro e s _ hf h; rw [List.nil_append, hseq_cons] at h; exact (hf e s _ (fun _ _ => rfl)).2 h
  | cons a L1 ih =>
    intro e s hap hf h
    have ha := hap a (by simp)
    rw [List.cons_append, hseq_cons] at h ⊢
    refine G_frame (e := e) (fun t ht => updo_other fun y hy => ha.ba y hy t ht) (fun d s' hd => ?_) h
    rw [← updo_comm (fun p q hp hq => ha.dst p q hp hq)]
    exact ih _ _ (fun b hb => hap b (by simp [hb])) (hf.frame fun t ht => updo_other fun y hy => ha.ab y hy t ht) hd
/-- One that leaves a trace is carried out first. -/
theorem removeE {k : Oper} (hk : calm P lm k.op = false) (N : Env → Store → Prop) (L2 : List Oper) : ∀ (L1 : List Oper) (e : Env) (s : Store), (∀ a ∈ L1, Apart P lm all a k) → hseq P lm σ0 all (L1 ++ k :: L2) e s N → G P lm σ0 all k e s (fun e s => hseq P lm σ0 all (L1 ++ L2) e s N) := by
  intro L1
  induction L1 with
  | nil => intro e s _ h; exact h
  | cons a L1 ih =>
    intro e s hap h
    have ha := hap a (by simp)
    have hca : calm P lm a.op = true := by rcases ha.eff with h | h; exact h; rw [hk] at h; cases h
    rw [List.cons_append, hseq_cons] at h
    obtain ⟨d, hd⟩ := fixed_of hca h
    have h := (hd e s _ (fun _ _ => rfl)).2 h
    have h := ih _ _ (fun b hb => hap b (by simp [hb])) h
    refine G_frame (e := updo e a.dst d) (fun t ht => (updo_other fun y hy => ha.ab y hy t ht).symm) (fun d' s' hd' => ?_) h
    rw [List.cons_append, hseq_cons]
    refine (hd _ _ _ (fun t ht => updo_other fun y hy => ha.ba y hy t ht)).1 ?_
    rw [← updo_comm (fun p q hp hq => ha.dst p q hp hq)]
    exact hd'
/-- One operation of the machine. -/
theorem G_machine {ops : Array Oper} {a : Act} {e : Env} {s : Store} (hs : Sim w0 M s w) (he : EnvOk M a.tmps e) (hok : ∀ o ∈ ops, operOk a.tmps.size o = true) {o : Oper} (ho : o ∈ ops) (hss : SLe σ0 s) {F : Env → Store → Prop} (h : G P lm σ0 ops.toList o e s F) :
    ∀ (Q : Exit → Act → World → Prop), if Region.wanted o (yielded ops a.tmps) = true then o.wp P a w (fun a' w' => ∃ v M' d s', a' = a.put o.dst v ∧ MLe M M' ∧ Sim w0 M' s' w' ∧ Den M' v d ∧ SLe σ0 s' ∧ F (updo e o.dst d) s') Q else F (updo e o.dst (.lit undef)) s := by
  intro Q
  have hoo := hok o ho
  simp only [operOk, Bool.and_eq_true] at hoo
  unfold G at h
  rcases guard_sound he hok o h with ⟨hw, h⟩ | ⟨hw, h⟩
  · rw [if_pos hw]
    have h2 : hop P lm o.op e s (fun d s' => SLe σ0 s' ∧ F (updo e o.dst d) s') := by
      unfold stepD at h
      split at h
      · rename_i hc
        obtain ⟨z, h1, h2⟩ := hop_one (K0 := fun d => F (updo e o.dst d) s) hc h
        rw [calm_at hc]
        exact h1 s _ hss ⟨hss, h2 _ h⟩
      · exact h
    refine oper_wp_mono ?_ (hop_sound hs he lm o hoo.1 h2 Q)
    rintro a' w' ⟨v, M', d, σ', h1, h2, h3, h4, h5⟩
    exact ⟨v, M', d, σ', h1, h2, h3, h4, h5.1, h5.2⟩
  · rw [if_neg (by simp [hw])]
    exact h
end Draw

theorem wp_some {o : Oper} {a : Act} {K : Act → World → Prop} (h : o.wp P a w K (fun _ _ _ => False)) : ∃ a' w', K a' w' := by
  unfold Oper.wp Oper.upon at h
  split at h
  · exact ⟨_, _, h⟩
  · exact ⟨_, _, h⟩
  · exact ⟨_, _, h⟩
  · obtain ⟨e, w', fr, h, -⟩ := h []
    cases e with
    | returned v => exact ⟨_, _, h⟩
    | panicked c => exact h.elim
    | outgrown => obtain ⟨_, _, h⟩ := h; exact h.elim
  · obtain ⟨v, w', h, -⟩ := h (Frame.ofRow P ‹String› ‹Array Value› .normal) []
    exact ⟨_, _, h⟩
  · exact h.elim
  · exact h.elim
section Draw2
variable {lm : Bool} {σ0 : Store}
/-- What a calm one comes to is fixed, as the machine could carry out what stands ahead of it. -/
theorem fixed_machine {ops : Array Oper} {N : Nat} (hok : ∀ o ∈ ops, operOk N o = true) {k : Oper} (hk : calm P lm k.op = true) (Nx : Env → Store → Prop) (L2 : List Oper) : ∀ (L1 : List Oper) (a : Act) (w : World) (M : Mem) (e : Env) (s : Store), (∀ x ∈ L1, x ∈ ops) → (∀ x ∈ L1, Apart P lm ops.toList x k) →
    Sim w0 M s w → EnvOk M a.tmps e → a.tmps.size = N → SLe σ0 s → hseq P lm σ0 ops.toList (L1 ++ k :: L2) e s Nx → ∃ d, Fixed P lm σ0 ops.toList k e d := by
  intro L1
  induction L1 with
  | nil => intro a w M e s _ _ _ _ _ _ h; rw [List.nil_append, hseq_cons] at h; exact fixed_of hk h
  | cons x L1 ih =>
    intro a w M e s hin hap hs he hN hss h
    subst hN
    rw [List.cons_append, hseq_cons] at h
    have hx := hap x (by simp)
    have back : ∀ d d', Fixed P lm σ0 ops.toList k (updo e x.dst d) d' → Fixed P lm σ0 ops.toList k e d' := fun d d' hf => hf.frame fun t ht => (updo_other fun y hy => hx.ab y hy t ht).symm
    have hm := G_machine hs he hok (hin x (by simp)) hss h (fun _ _ _ => False)
    split at hm
    · obtain ⟨a', w', v, M', d, s', rfl, h1, h2, h3, h4, h5⟩ := wp_some hm
      obtain ⟨d', hd'⟩ := ih _ _ M' _ _ (fun y hy => hin y (by simp [hy])) (fun y hy => hap y (by simp [hy])) h2 ((he.mono h1).put _ v d h3) (put_size _ _ _) h4 h5
      exact ⟨d', back d d' hd'⟩
    · obtain ⟨d', hd'⟩ := ih (a.put x.dst undef) w M _ s (fun y hy => hin y (by simp [hy])) (fun y hy => hap y (by simp [hy])) hs (he.put x.dst undef (.lit undef) (.lit _)) (put_size _ _ _) hss hm
      exact ⟨d', back _ d' hd'⟩

def pend (listed : Array Bool) (n : Nat) : List Nat := (List.range n).filter fun i => !listed.getD i true
theorem pend_split (listed : Array Bool) (n k : Nat) (hk : k < n) (hl : listed.getD k true = false) :
    ∃ p1 p2, pend listed n = p1 ++ k :: p2 ∧ pend (listed.setIfInBounds k true) n = p1 ++ p2 ∧ ∀ j ∈ p1, j < k ∧ listed.getD j true = false := by
  have hr : List.range n = List.range k ++ k :: (List.range' (k + 1) (n - (k + 1))) := by
    rw [List.range_eq_range', List.range_eq_range']
    have h1 : List.range' 0 n = List.range' 0 k ++ List.range' (0 + k) (n - k) := by rw [List.range'_append_1]; congr 1; omega
    rw [h1]
    congr 1
    have : n - k = (n - (k + 1)) + 1 := by omega
    rw [this, List.range'_succ]; simp
  have hset : ∀ i, i ≠ k → (listed.setIfInBounds k true).getD i true = listed.getD i true := fun i hi => by
    simp only [Array.getD_eq_getD_getElem?]
    rw [Array.getElem?_setIfInBounds_ne (fun e => hi e.symm)]
  have hkk : (listed.setIfInBounds k true).getD k true = true := by
    simp only [Array.getD_eq_getD_getElem?, Array.getElem?_setIfInBounds]
    simp only [if_true]
    split <;> rfl
  refine ⟨(List.range k).filter fun i => !listed.getD i true, (List.range' (k + 1) (n - (k + 1))).filter fun i => !listed.getD i true, ?_, ?_, ?_⟩
  · unfold pend
    rw [hr, List.filter_append, List.filter_cons]
    simp [hl]
  · unfold pend
    rw [hr, List.filter_append, List.filter_cons]
    rw [hkk]
    simp only [Bool.not_true, Bool.false_eq_true, if_false]
    congr 1
    · refine List.filter_congr fun i hi => ?_
      have : i < k := by simpa using hi
      rw [hset i (by omega)]
    · refine List.filter_congr fun i hi => ?_
      have := List.mem_range'_1.1 hi
      rw [hset i (by omega)]
  · intro j hj
    have := List.mem_filter.1 hj
    exact ⟨by simpa using this.1, by simpa using this.2⟩

theorem ancOf_bit (acc : List Nat) (l : List Edge) (j : Nat) (h : (ancOf acc l).testBit j = true) : ∃ e ∈ l, j = e.on ∨ (acc.getD e.on 0).testBit j = true := by
  induction l with
  | nil => simp [ancOf] at h
  | cons e l ih =>
    simp only [ancOf, List.foldr_cons, Nat.testBit_or, Bool.or_eq_true] at h
    rcases h with (h | h) | h
    · refine ⟨e, by simp, .inl ?_⟩
      rw [Nat.one_shiftLeft, Nat.testBit_two_pow] at h
      simpa using (of_decide_eq_true h).symm
    · exact ⟨e, by simp, .inr h⟩
    · obtain ⟨e', he, hj⟩ := ih h
      exact ⟨e', by simp [he], hj⟩
theorem ancOf_congr {acc acc' : List Nat} {l : List Edge} (h : ∀ e ∈ l, acc.getD e.on 0 = acc'.getD e.on 0) : ancOf acc l = ancOf acc' l := by
  induction l with
  | nil => rfl
  | cons e l ih =>
    simp only [ancOf, List.foldr_cons]
    rw [h e (by simp)]
    have := ih fun e he => h e (by simp [he])
    simp only [ancOf] at this
    rw [this]
theorem ancs_prefix : ∀ (r : List Oper) (acc : List Nat), ∃ t, ancs r acc = acc ++ t := by
  intro r
  induction r with
  | nil => intro acc; exact ⟨[], by simp [ancs]⟩
  | cons o r ih =>
    intro acc
    obtain ⟨t, ht⟩ := ih (acc ++ [ancOf acc (o.after.toList.filter (Region.binds .any))])
    exact ⟨_, by rw [ancs, ht, List.append_assoc]⟩
theorem ancs_get : ∀ (r : List Oper) (acc : List Nat) (i : Nat) (o : Oper), r[i]? = some o → (∀ e ∈ o.after.toList, Region.binds .any e = true → e.on < acc.length + i) →
    (ancs r acc).getD (acc.length + i) 0 = ancOf (ancs r acc) (o.after.toList.filter (Region.binds .any)) := by
  intro r
  induction r with
  | nil => intro acc i o h; simp at h
  | cons x r ih =>
    intro acc i o h hb
    cases i with
    | zero =>
      simp only [List.getElem?_cons_zero, Option.some.injEq] at h
      subst h
      rw [ancs]
      obtain ⟨t, ht⟩ := ancs_prefix r (acc ++ [ancOf acc (x.after.toList.filter (Region.binds .any))])
      rw [ht]
      have h1 : ((acc ++ [ancOf acc (x.after.toList.filter (Region.binds .any))]) ++ t).getD (acc.length + 0) 0 = ancOf acc (x.after.toList.filter (Region.binds .any)) := by
        simp [List.getD_eq_getElem?_getD]
      rw [h1]
      refine ancOf_congr fun e he => ?_
      have := List.mem_filter.1 he
      have := hb e this.1 this.2
      have hlt : e.on < acc.length := by omega
      simp only [List.getD_eq_getElem?_getD, List.append_assoc]
      rw [List.getElem?_append_left hlt]
    | succ i =>
      simp only [List.getElem?_cons_succ] at h
      rw [ancs]
      have := ih (acc ++ [ancOf acc (x.after.toList.filter (Region.binds .any))]) i o h (fun e he hbe => by have := hb e he hbe; simp only [List.length_append, List.length_singleton]; omega)
      simp only [List.length_append, List.length_singleton] at this
      rw [show acc.length + (i + 1) = acc.length + 1 + i from by omega]
      exact this

theorem seq_any {ops : Array Oper} (hd : drawOk P lm ops.toList = true) {N : Nat} (hok : ∀ o ∈ ops, operOk N o = true) (M0 : Mem) (K : Kont) (c : Nat) (hcs : c ≤ ops.size) (hcut : ∀ k, c ≤ k → k < ops.size → ∀ i, i < c → ((ancs ops.toList []).getD k 0).testBit i = true) (Nx : Env → Store → Prop)
    (tail : ∀ (listed : Array Bool) (a : Act) (w : World) (M : Mem) (e : Env) (s : Store), listed.size = ops.size → (∀ i j, listed.getD i false = true → ((ancs ops.toList []).getD i 0).testBit j = true → listed.getD j false = true) →
      pend listed c = [] → (∀ i, c ≤ i → i < ops.size → listed.getD i true = false) → MLe M0 M → Sim w0 M s w → EnvOk M a.tmps e → a.tmps.size = N → a.defers = [] → Nx e s → wpAny P .any ops (hpost w0 N M0 K) (ops.size - c) listed a w) : ∀ (fuel : Nat) (listed : Array Bool) (a : Act) (w : World) (M : Mem) (e : Env) (s : Store),
    (pend listed c).length = fuel → listed.size = ops.size → (∀ i j, listed.getD i false = true → ((ancs ops.toList []).getD i 0).testBit j = true → listed.getD j false = true) → (∀ i, c ≤ i → i < ops.size → listed.getD i true = false) →
    MLe M0 M → Sim w0 M s w → EnvOk M a.tmps e → a.tmps.size = N → a.defers = [] → SLe σ0 s →
    hseq P lm σ0 ops.toList ((pend listed c).filterMap fun i => ops[i]?) e s Nx → wpAny P .any ops (hpost w0 N M0 K) (fuel + (ops.size - c)) listed a w := by
  unfold drawOk at hd
  rw [Bool.and_eq_true] at hd
  have hon : ∀ (i : Nat) (o : Oper), ops[i]? = some o → ∀ e ∈ o.after.toList, Region.binds .any e = true → e.on < i := by
    intro i o ho e he hb
    have hi : i < ops.size := (Array.getElem?_eq_some_iff.1 ho).1
    have := List.all_eq_true.1 hd.1 i (by simpa using hi)
    rw [Array.getElem?_toList, ho] at this
    have := List.all_eq_true.1 this e he
    rw [hb] at this
    simpa using this
  have hpair : ∀ (j k : Nat) (oj ok : Oper), ops[j]? = some oj → ops[k]? = some ok → j < k → ¬ ((ancs ops.toList []).getD k 0).testBit j = true → Apart P lm ops.toList oj ok := by
    intro j k oj ok hj hk hlt hn
    have hi : k < ops.size := (Array.getElem?_eq_some_iff.1 hk).1
    have := List.all_eq_true.1 (List.all_eq_true.1 hd.2 k (by simpa using hi)) j (by simpa using hlt)
    rw [Array.getElem?_toList, Array.getElem?_toList, hj, hk, Bool.or_eq_true] at this
    rcases this with h | h
    · exact absurd h hn
    · exact apart_of h
  have hanc : ∀ (k : Nat) (o : Oper), ops[k]? = some o → ∀ j, ((ancs ops.toList []).getD k 0).testBit j = true → ∃ e ∈ o.after.toList, Region.binds .any e = true ∧ (j = e.on ∨ ((ancs ops.toList []).getD e.on 0).testBit j = true) := by
    intro k o ho j hj
    have := ancs_get ops.toList [] k o (by rw [Array.getElem?_toList]; exact ho) (fun e he hb => by simpa using hon k o ho e he hb)
    simp only [List.length_nil, Nat.zero_add] at this
    rw [this] at hj
    obtain ⟨e, he, hj⟩ := ancOf_bit _ _ _ hj
    have := List.mem_filter.1 he
    exact ⟨e, this.1, this.2, hj⟩
  have hgd : ∀ (listed : Array Bool) (i : Nat), listed.size = ops.size → i < ops.size → listed.getD i true = listed.getD i false := by
    intro listed i h1 h2
    simp [Array.getD, h1, h2]
  have ready_mem : ∀ (listed : Array Bool) (i : Nat), i ∈ Region.ready .any ops listed ↔ ∃ o, ops[i]? = some o ∧ listed.getD i true = false ∧ ∀ e ∈ o.after.toList, Region.binds .any e = true → listed.getD e.on false = true := by
    intro listed i
    unfold Region.ready
    rw [List.mem_filter]
    constructor
    · rintro ⟨h1, h2⟩
      have hi : i < ops.size := by simpa using h1
      obtain ⟨o, ho⟩ : ∃ o, ops[i]? = some o := ⟨ops[i], by simp [hi]⟩
      rw [ho] at h2
      simp only [Option.map_some, Option.getD_some, Bool.and_eq_true, Bool.not_eq_true'] at h2
      refine ⟨o, ho, h2.1, fun e he hb => ?_⟩
      have := Array.all_eq_true'.1 h2.2 e (by simpa using he)
      rw [hb] at this; simpa using this
    · rintro ⟨o, ho, h1, h2⟩
      refine ⟨by have := (Array.getElem?_eq_some_iff.1 ho).1; simpa using this, ?_⟩
      rw [ho]
      simp only [Option.map_some, Option.getD_some, Bool.and_eq_true, Bool.not_eq_true']
      refine ⟨h1, Array.all_eq_true'.2 fun e he => ?_⟩
      by_cases hb : Region.binds .any e = true
      · rw [h2 e (by simpa using he) hb]; simp
      · simp [hb]
  have empty : ∀ listed : Array Bool, listed.size = ops.size → Region.ready .any ops listed = [] → pend listed c = [] := by
    intro listed hls hr
    cases hp : pend listed c with
    | nil => rfl
    | cons i rest =>
      exfalso
      have hmem : i ∈ pend listed c := by rw [hp]; simp
      have hi := List.mem_filter.1 hmem
      have hi0 : i < c := by simpa using hi.1
      have hi1 : i < ops.size := by omega
      have hi2 : listed.getD i true = false := by simpa using hi.2
      obtain ⟨o, ho⟩ : ∃ o, ops[i]? = some o := ⟨ops[i], by simp [hi1]⟩
      obtain ⟨p1, p2, e1, -, e3⟩ := pend_split listed c i hi0 hi2
      have hp1 : p1 = [] := by
        rw [hp] at e1
        cases p1 with
        | nil => rfl
        | cons x p1 =>
          simp only [List.cons_append, List.cons.injEq] at e1
          have := (e3 x (by simp)).1
          omega
      have : i ∈ Region.ready .any ops listed := (ready_mem listed i).2 ⟨o, ho, hi2, fun e he hb => by
        have hlt := hon i o ho e he hb
        cases hl : listed.getD e.on false with
        | true => rfl
        | false =>
          exfalso
          have h4 : e.on ∈ (List.range i).filter fun i => !listed.getD i true := List.mem_filter.2 ⟨by simpa using hlt, by rw [hgd listed _ hls (by omega), hl]; rfl⟩
          have h5 : e.on ∈ pend listed c := List.mem_filter.2 ⟨by simp; omega, by rw [hgd listed _ hls (by omega), hl]; rfl⟩
          rw [e1, hp1] at h5
          have hsorted : ∀ x ∈ p2, i < x ∨ x ∈ p2 := fun x hx => .inr hx
          have hpw : (pend listed c).Pairwise (· < ·) := List.Pairwise.filter _ List.pairwise_lt_range
          rw [e1, hp1, List.nil_append, List.pairwise_cons] at hpw
          simp only [List.nil_append, List.mem_cons] at h5
          rcases h5 with h5 | h5
          · omega
          · have := hpw.1 _ h5; omega⟩
      rw [hr] at this; cases this
  intro fuel
  induction fuel with
  | zero =>
    intro listed a w M e s hlen hls hdc hun hM hs he hN hdf hss h
    have hp : pend listed c = [] := List.eq_nil_of_length_eq_zero hlen
    rw [hp] at h
    rw [Nat.zero_add]
    exact tail listed a w M e s hls hdc hp hun hM hs he hN hdf h
  | succ fuel ih =>
    intro listed a w M e s hlen hls hdc hun hM hs he hN hdf hss h
    rw [show fuel + 1 + (ops.size - c) = (fuel + (ops.size - c)) + 1 from by omega]
    refine ⟨fun hr => ?_, fun k hk => ?_⟩
    · rw [empty listed hls hr] at hlen; cases hlen
    · obtain ⟨o, ho, hl, haf⟩ := (ready_mem listed k).1 hk
      have hki : k < ops.size := (Array.getElem?_eq_some_iff.1 ho).1
      have hall : ∀ j, ((ancs ops.toList []).getD k 0).testBit j = true → listed.getD j false = true := by
        intro j hj
        obtain ⟨e, he, hb, hor⟩ := hanc k o ho j hj
        have := haf e he hb
        rcases hor with rfl | hor
        · exact this
        · exact hdc _ _ this hor
      have hkc : k < c := by
        refine Nat.lt_of_not_le fun hck => ?_
        have hnil : pend listed c = [] := by
          unfold pend
          rw [List.filter_eq_nil_iff]
          intro i hi
          have hi : i < c := by simpa using hi
          have := hall i (hcut k hck hki i hi)
          rw [hgd listed i hls (by omega), this]
          simp
        rw [hnil] at hlen; cases hlen
      obtain ⟨p1, p2, e1, e2, e3⟩ := pend_split listed c k hkc hl
      have hlist : ((pend listed c).filterMap fun i => ops[i]?) = (p1.filterMap fun i => ops[i]?) ++ o :: (p2.filterMap fun i => ops[i]?) := by
        rw [e1, List.filterMap_append, List.filterMap_cons, ho]
      have hlist2 : ((pend (listed.setIfInBounds k true) c).filterMap fun i => ops[i]?) = (p1.filterMap fun i => ops[i]?) ++ (p2.filterMap fun i => ops[i]?) := by
        rw [e2, List.filterMap_append]
      have hset : ∀ i, listed.getD i false = true → (listed.setIfInBounds k true).getD i false = true := fun i hi => by
        simp only [Array.getD_eq_getD_getElem?, Array.getElem?_setIfInBounds] at hi ⊢
        split
        · split <;> simp_all
        · exact hi
      have hap : ∀ x ∈ (p1.filterMap fun i => ops[i]?), Apart P lm ops.toList x o := by
        intro x hx
        obtain ⟨j, hj, hxj⟩ := List.mem_filterMap.1 hx
        obtain ⟨hlt, hjl⟩ := e3 j hj
        refine hpair j k x o hxj ho hlt fun hmem => ?_
        have := hall j hmem
        rw [hgd listed j hls (by omega)] at hjl
        rw [hjl] at this; cases this
      have hin : ∀ x ∈ (p1.filterMap fun i => ops[i]?), x ∈ ops := fun x hx => by
        obtain ⟨j, -, hxj⟩ := List.mem_filterMap.1 hx
        exact Array.mem_of_getElem? hxj
      have hdc' : ∀ i j, (listed.setIfInBounds k true).getD i false = true → ((ancs ops.toList []).getD i 0).testBit j = true → (listed.setIfInBounds k true).getD j false = true := by
        intro i j hi hj
        by_cases hik : i = k
        · subst hik; exact hset j (hall j hj)
        · refine hset j (hdc i j ?_ hj)
          simp only [Array.getD_eq_getD_getElem?] at hi ⊢
          rwa [Array.getElem?_setIfInBounds_ne (fun e => hik e.symm)] at hi
      have hlen' : (pend (listed.setIfInBounds k true) c).length = fuel := by
        rw [e1] at hlen; rw [e2]
        simp only [List.length_append, List.length_cons] at hlen ⊢
        omega
      have hun' : ∀ i, c ≤ i → i < ops.size → (listed.setIfInBounds k true).getD i true = false := fun i h1 h2 => by
        have := hun i h1 h2
        simp only [Array.getD_eq_getD_getElem?] at this ⊢
        rwa [Array.getElem?_setIfInBounds_ne (by omega)]
      rw [hlist] at h
      have hG : G P lm σ0 ops.toList o e s (fun e s => hseq P lm σ0 ops.toList ((p1.filterMap fun i => ops[i]?) ++ (p2.filterMap fun i => ops[i]?)) e s Nx) := by
        cases hc : calm P lm o.op with
        | true =>
          obtain ⟨d, hf⟩ := fixed_machine hok hc Nx _ _ a w M e s hin hap hs he hN hss h
          exact (hf e s _ (fun _ _ => rfl)).1 (removeC Nx _ _ e s hap hf h)
        | false => exact removeE hc Nx _ _ e s hap h
      subst hN
      have hm := G_machine hs he hok (Array.mem_of_getElem? ho) hss hG (hpost w0 a.tmps.size M0 K)
      unfold wpOp
      rw [ho]
      simp only
      split at hm
      · rename_i hw
        rw [if_pos hw]
        refine .inl (oper_wp_mono ?_ hm)
        rintro a' w' ⟨v, M', d, s', rfl, h1, h2, h3, h4, h5⟩
        exact ih _ _ w' M' _ s' hlen' (by simpa using hls) hdc' hun' (hM.trans h1) h2 ((he.mono h1).put _ v d h3) (put_size _ _ _) (by rw [put_defers]; exact hdf) h4 (by rw [hlist2]; exact h5)
      · rename_i hw
        rw [if_neg hw]
        exact ih _ _ w M _ s hlen' (by simpa using hls) hdc' hun' hM hs (he.put _ _ _ (.lit _)) (put_size _ _ _) (by rw [put_defers]; exact hdf) hss (by rw [hlist2]; exact hm)
end Draw2

theorem hAny_sound {ops : Array Oper} (lm : Bool) {N : Nat} (hok : ∀ o ∈ ops, operOk N o = true) (M0 : Mem) (K : Kont) : ∀ (fuel : Nat) (listed : Array Bool) (a : Act) (w : World) (M : Mem) (e : Env) (s : Store), MLe M0 M → Sim w0 M s w → EnvOk M a.tmps e → a.tmps.size = N → a.defers = [] →
    hAny P lm ops fuel listed e s K.n → wpAny P .any ops (hpost w0 N M0 K) fuel listed a w := by
  intro fuel
  induction fuel with
  | zero =>
    intro listed a w M e s hM hs he hN hd h
    exact ⟨h.1, ⟨M, e, s, hM, hs, he, hN, hd, h.2⟩⟩
  | succ fuel ih =>
    intro listed a w M e s hM hs he hN hd h
    refine ⟨fun hr => ⟨M, e, s, hM, hs, he, hN, hd, h.1 hr⟩, fun i hi => ?_⟩
    have h2 := h.2 i hi
    unfold wpOp
    cases ho : ops[i]? with
    | none => rw [ho] at h2; exact ih _ a w M e s hM hs he hN hd h2
    | some o =>
      rw [ho] at h2
      simp only at h2 ⊢
      have hoo := hok o (Array.mem_of_getElem? ho)
      subst hN
      rcases guard_sound he hok o h2 with ⟨hw, h3⟩ | ⟨hw, h3⟩
      · rw [if_pos hw]
        refine .inl (oper_wp_mono ?_ (hop_sound hs he lm o (by simp only [operOk, Bool.and_eq_true] at hoo; exact hoo.1) h3 _))
        rintro a' w' ⟨v, M', d, σ', rfl, h1, h2, h3, h4⟩
        exact ih _ _ w' M' _ σ' (hM.trans h1) h2 ((he.mono h1).put _ v d h3) (put_size _ _ _) (by rw [put_defers]; exact hd) h4
      · rw [hw]
        exact ih _ _ w M _ s hM hs (he.put _ _ _ (.lit _)) (put_size _ _ _) (by rw [put_defers]; exact hd) h3

theorem hdraw_sound (lm : Bool) {ops : Array Oper} {N : Nat} (hok : ∀ o ∈ ops, operOk N o = true) (M0 : Mem) (K : Kont) (a : Act) (w : World) (M : Mem) (e : Env) (s : Store) (hM : MLe M0 M) (hs : Sim w0 M s w) (he : EnvOk M a.tmps e) (hN : a.tmps.size = N) (hd : a.defers = [])
    (h : hdraw P lm ops e s K.n) : wpAny P .any ops (hpost w0 N M0 K) ops.size (Array.replicate ops.size false) a w := by
  rcases h with h | ⟨h1, c, σ0, hc, hle, h2⟩
  · exact hAny_sound lm hok M0 K _ _ a w M e s hM hs he hN hd h
  · have hrep : ∀ i, (Array.replicate ops.size false).getD i false = false := fun i => by
      simp only [Array.getD_eq_getD_getElem?, Array.getElem?_replicate]; split <;> rfl
    unfold cutOk at hc
    simp only [Bool.and_eq_true, decide_eq_true_eq, Array.length_toList, List.all_eq_true, List.mem_range, Bool.or_eq_true] at hc
    obtain ⟨hc0, hc1⟩ := hc
    have hcut : ∀ k, c ≤ k → k < ops.size → ∀ i, i < c → ((ancs ops.toList []).getD k 0).testBit i = true := fun k h1 h2 i hi => by
      rcases hc1 k h2 with h | h
      · omega
      · exact h i hi
    have gen : ∀ (l : List Oper) (m : Nat), m ≤ l.length → ((List.range m).filterMap fun i => l[i]?) = l.take m := by
      intro l
      induction l with
      | nil => intro m hm; simp at hm; subst hm; rfl
      | cons x l ih =>
        intro m hm
        cases m with
        | zero => rfl
        | succ m =>
          rw [List.range_succ_eq_map, List.filterMap_cons]
          simp only [List.getElem?_cons_zero, List.filterMap_map, List.take_succ_cons]
          congr 1
          exact ih m (by simpa using hm)
    have hp : pend (Array.replicate ops.size false) c = List.range c := by
      unfold pend
      rw [List.filter_eq_self]
      intro i hi
      have : i < ops.size := by have : i < c := by simpa using hi
                                omega
      simp [Array.getD_eq_getD_getElem?, Array.getElem?_replicate, this]
    have key := seq_any (σ0 := σ0) (w0 := w0) h1 hok M0 K c hc0 hcut (fun e s => ∃ σ1, SLe σ1 s ∧ hseq P lm σ1 ops.toList (ops.toList.drop c) e s K.n) ?_ c (Array.replicate ops.size false) a w M e s (by rw [hp]; simp) (by simp) (fun i j hi => by rw [hrep] at hi; cases hi) (fun i _ hi => by simp [Array.getD_eq_getD_getElem?, Array.getElem?_replicate, hi]) hM hs he hN hd hle ?_
    · rw [show c + (ops.size - c) = ops.size from by omega] at key; exact key
    · rintro listed a w M e s hls hdc hpd hun hM hs he hN hd ⟨σ1, hle1, h3⟩
      have hp2 : (pend listed ops.size).filterMap (fun i => ops[i]?) = ops.toList.drop c := by
        have e1 : pend listed ops.size = (List.range' c (ops.size - c)) := by
          have hr : List.range ops.size = List.range c ++ List.range' c (ops.size - c) := by
            rw [List.range'_eq_map_range, ← List.range_add]
            congr 1; omega
          unfold pend at hpd ⊢
          rw [hr, List.filter_append, hpd, List.nil_append, List.filter_eq_self]
          intro i hi
          have := List.mem_range'_1.1 hi
          rw [hun i this.1 (by omega)]; rfl
        rw [e1]
        have := gen (ops.toList.drop c) (ops.size - c) (by simp)
        rw [List.take_of_length_le (by simp)] at this
        rw [← this, List.range'_eq_map_range, List.filterMap_map]
        congr 1
        funext i
        simp
      have key2 := seq_any (σ0 := σ1) (w0 := w0) h1 hok M0 K ops.size (Nat.le_refl _) (fun k h1 h2 => by omega) K.n ?_ (pend listed ops.size).length listed a w M e s rfl hls hdc (fun i h1 h2 => by omega) hM hs he hN hd hle1 (by rw [hp2]; exact h3)
      · have hl : (pend listed ops.size).length = ops.size - c := by
          have hr : List.range ops.size = List.range c ++ List.range' c (ops.size - c) := by
            rw [List.range'_eq_map_range, ← List.range_add]
            congr 1; omega
          unfold pend at hpd ⊢
          rw [hr, List.filter_append, hpd, List.nil_append]
          rw [List.filter_eq_self.2]
          · simp
          · intro i hi
            have := List.mem_range'_1.1 hi
            rw [hun i this.1 (by omega)]; rfl
        rw [hl, Nat.sub_self, Nat.add_zero] at key2
        exact key2
      · intro listed a w M e s hls hdc hpd hun hM hs he hN hdf hn
        rw [Nat.sub_self]
        refine ⟨?_, ⟨M, e, s, hM, hs, he, hN, hdf, hn⟩⟩
        cases hr : Region.ready .any ops listed with
        | nil => rfl
        | cons i r =>
          exfalso
          have hmem : i ∈ Region.ready .any ops listed := by rw [hr]; simp
          unfold Region.ready at hmem
          obtain ⟨g1, g2⟩ := List.mem_filter.1 hmem
          have hi : i < ops.size := by simpa using g1
          have ho : ops[i]? = some ops[i] := by simp [hi]
          rw [ho] at g2
          simp only [Option.map_some, Option.getD_some, Bool.and_eq_true, Bool.not_eq_true'] at g2
          have : i ∈ pend listed ops.size := List.mem_filter.2 ⟨by simpa using hi, by rw [g2.1]; rfl⟩
          rw [hpd] at this; cases this
    · rw [hp]
      have := gen ops.toList c (by simpa using hc0)
      simp only [Array.getElem?_toList] at this
      rw [this]; exact h2

/-- A loop, by what holds at each round's head with so many rounds to go. -/
theorem wp_loopN {c : Code} {Q : Exit → Act → World → Prop} (J : Nat → Act → World → Prop) (round : ∀ n a w, J n a w → c.wp P (Exit.then (fun a' w' => ∃ m, m < n ∧ J m a' w') Q) a w) :
    ∀ (n : Nat) (a : Act) (w : World), J n a w → (Code.loop c).wp P Q a w := by
  intro n a w h b k cs
  have key : ∀ n a w, J n a w → ∃ e a' w', Q e a' w' ∧ Arrives P (lone (b.at a (.code c :: .inLoop c :: k)) cs w) b k cs e a' w' := by
    intro n
    induction n using Nat.strongRecOn with
    | _ n ih =>
      intro a w hJ
      obtain ⟨e, a1, w1, hq, harr⟩ := round n a w hJ b (.inLoop c :: k) cs
      cases e with
      | normal =>
        obtain ⟨m, hlt, hJ1⟩ := hq
        obtain ⟨e2, a2, w2, hq2, harr2⟩ := ih m hlt a1 w1 hJ1
        exact ⟨e2, a2, w2, hq2, .of_steps (Steps.trans harr (.one step_inLoop)) harr2⟩
      | exit id => exact ⟨_, a1, w1, hq, .pass (x := .inLoop c) rfl (fun _ _ => .inl (by simp)) harr⟩
      | goto l => exact ⟨_, a1, w1, hq, .pass (x := .inLoop c) rfl (fun _ _ => .inl (by simp)) harr⟩
      | ret => exact ⟨_, a1, w1, hq, .pass (x := .inLoop c) rfl (fun _ _ => .inl (by simp)) harr⟩
      | panic ch => exact ⟨_, a1, w1, hq, .pass (x := .inLoop c) rfl (fun _ _ => .inl (by simp)) harr⟩
      | outgrown => exact ⟨_, a1, w1, hq, .pass (x := .inLoop c) rfl (fun _ _ => .inl (by simp)) harr⟩
  obtain ⟨e, a', w', hq, harr⟩ := key n a w h
  exact ⟨e, a', w', hq, .of_steps (.one step_loop) harr⟩

theorem hwp_sound (hm : P.follows .mixedOrders = true) (lm : Bool) {N : Nat} : ∀ (c : Code) (hc : codeOk N c = true) (K : Kont) (M0 M : Mem) (e : Env) (s : Store) (a : Act) (w : World), MLe M0 M → Sim w0 M s w → EnvOk M a.tmps e → a.tmps.size = N → a.defers = [] →
    hwp P lm c K e s → c.wp P (hpost w0 N M0 K) a w := by
  intro c
  induction c with
  | skip => intro hc K M0 M e s a w hM hs he hN hd h; exact wp_skip ⟨M, e, s, hM, hs, he, hN, hd, h⟩
  | region id ops draw =>
    intro hc K M0 M e s a w hM hs he hN hd h
    have hok : ∀ o ∈ ops, operOk N o = true := by
      simp only [codeOk, List.all_eq_true] at hc
      exact fun o ho => hc o (by simpa using ho)
    cases draw with
    | false => exact wp_region_list (hops_sound lm hok M0 K _ (fun o ho => by simpa using ho) a w M e s hM hs he hN hd h)
    | true => exact wp_region_any hm (hdraw_sound lm hok M0 K a _ M e s hM (hs.drawn _) he hN hd h)
  | seq x y ihx ihy =>
    intro hc K M0 M e s a w hM hs he hN hd h
    simp only [codeOk, Bool.and_eq_true] at hc
    refine wp_seq (wp_mono (ihx hc.1 _ M0 M e s a w hM hs he hN hd h) ?_)
    intro ex a' w' hp
    cases ex <;> first
      | exact hp
      | (obtain ⟨M', e', s', h1, h2, h3, h4, h5, h6⟩ := hp; exact ihy hc.2 K M0 M' e' s' a' w' h1 h2 h3 h4 h5 h6)
  | cond c x y ihx ihy =>
    intro hc K M0 M e s a w hM hs he hN hd h
    simp only [codeOk, Bool.and_eq_true] at hc
    subst hN
    have hv := den_ev he hc.1.1
    simp only [hwp, hcond] at h
    split at h
    · rename_i t ht
      rw [ht] at hv
      have := den_lit_inv hv
      refine wp_cond_split this (fun e1 => ihx hc.1.2 K M0 M e s a w hM hs he rfl hd (h.1 e1)) (fun e1 => ihy hc.2 K M0 M e s a w hM hs he rfl hd (h.2 e1))
    · exact h.elim
  | block id c ih =>
    intro hc K M0 M e s a w hM hs he hN hd h
    refine wp_block (wp_mono (ih hc _ M0 M e s a w hM hs he hN hd h) ?_)
    intro ex a' w' hp
    cases ex with
    | exit id' =>
      simp only [Exit.inBlock]
      obtain ⟨M', e', s', h1, h2, h3, h4, h5, h6⟩ := hp
      split
      · rename_i hid
        simp only [if_pos hid] at h6
        exact ⟨M', e', s', h1, h2, h3, h4, h5, h6⟩
      · rename_i hid
        simp only [if_neg hid] at h6
        exact ⟨M', e', s', h1, h2, h3, h4, h5, h6⟩
    | _ => exact hp
  | loop c ih =>
    intro hc K M0 M e s a w hM hs he hN hd h
    obtain ⟨I, ⟨n, s', hss, hI⟩, round⟩ := h
    refine wp_loopN (fun n a w => ∃ M' e s, MLe M0 M' ∧ Sim w0 M' s w ∧ EnvOk M' a.tmps e ∧ a.tmps.size = N ∧ a.defers = [] ∧ I n e s) ?_ n a w ⟨M, e, s', hM, hs.drop hss, he, hN, hd, hI⟩
    rintro n a w ⟨M', e, s, h1, h2, h3, h4, h5, h6⟩
    refine wp_mono (ih hc _ M0 M' e s a w h1 h2 h3 h4 h5 (round n e s h6)) ?_
    intro ex a' w' hp
    cases ex with
    | normal =>
      obtain ⟨M2, e2, s2, g1, g2, g3, g4, g5, m, s3, g6, g7, g8⟩ := hp
      exact ⟨m, g6, M2, e2, s3, g1, g2.drop g7, g3, g4, g5, g8⟩
    | _ => exact hp
  | exit id => intro hc K M0 M e s a w hM hs he hN hd h; exact wp_exit ⟨M, e, s, hM, hs, he, hN, hd, h⟩
  | ret => intro hc K M0 M e s a w hM hs he hN hd h; exact wp_ret ⟨M, e, s, hM, hs, he, hN, hd, h⟩
  | _ => intros; rename_i h; exact h.elim

/-! ### A function -/
def initEnv (ds : List D) : Env := fun t => ds.getD t (.lit undef)
def hres (P : Program) : List ResultVar → Env → Store → (List D → Prop) → Prop
  | [], _, _, K => K []
  | .tmp t :: r, e, s, K => hres P r e s fun ds => K (e t :: ds)
  | .cell a t :: r, e, s, K => wtx P t fun X => hload X.T (e a) s fun d => hres P r e s fun ds => K (d :: ds)
def tupD (ds : List D) : D := match ds with
  | [d] => d
  | ds => .tup ds
def resOk (N : Nat) : ResultVar → Bool
  | .tmp t => decide (t < N)
  | .cell a _ => decide (a < N)
def retK (P : Program) (fn : Func) (Q : D → Store → Prop) : Kont :=
  { n := fun e s => hres P fn.results.toList e s fun ds => ∃ s', SLe s' s ∧ Q (tupD ds) s'
    r := fun e s => hres P fn.results.toList e s fun ds => ∃ s', SLe s' s ∧ Q (tupD ds) s'
    x := fun _ _ _ => False }

def resOne (tmps : Array Value) : ResultVar → Sem Value
  | .tmp t => pure (tmps.getD t undef)
  | .cell a t => do loadVar t (← asAddr (tmps.getD a undef))

theorem load_pure (hs : Sim w0 M σ w) {t : TypeId} {T : TI} (hT : ti P t = some T) {v : Value} {d : D} (hv : Den M v d) {K : D → Prop} (hk : hload T d σ K) : ∃ u x, (Instr.loadAt t v).run P w = .ok u w ∧ Den M u x ∧ K x := by
  obtain ⟨i, dd, hi, hd, e1, e2, -, -, -⟩ := ti_some hT
  have core : ∀ (b o : Nat) (ds : List D), Holds M w b o ds → ds.length = T.size → (T.kk.agg = true ∨ T.size = 1) → K (valD T.kk.agg ds) → ∃ u x, (Instr.loadAt t (.pointer (some ⟨b, o, none⟩))).run P w = .ok u w ∧ Den M u x ∧ K x := by
    intro b o ds hh hl h1 hk
    by_cases ha : (kkOf dd).agg = true
    · obtain ⟨vs, hr, hs, hone, hden⟩ := hh.loadCells (P := P)
      have hv : valD T.kk.agg ds = .agg ds := by rw [e1]; simp [valD, ha]
      refine ⟨.agg vs, .agg ds, ?_, .agg vs ds hs hone hden, by rw [← hv]; exact hk⟩
      rw [hl, e2] at hr
      simp [Instr.loadAt, Instr.sureAddr, loadVar, run_isAgg hd, ha, run_sizeOf hi, hr]
    · have hf : (kkOf dd).agg = false := by simpa using ha
      obtain ⟨cv, hc⟩ := hh
      have hl1 : ds.length = 1 := by
        rcases h1 with h1 | h1
        · rw [e1, hf] at h1; cases h1
        · omega
      obtain ⟨h2, h3, h4⟩ := hc 0 (by omega)
      match ds, hl1 with
      | [x], _ =>
        have hv : valD T.kk.agg [x] = x := by rw [e1, hf]; rfl
        refine ⟨cv 0, x, ?_, h4 x rfl, by rw [← hv]; exact hk⟩
        simp only [Nat.add_zero] at h2
        simp [Instr.loadAt, Instr.sureAddr, loadVar, run_isAgg hd, hf, h2]
  unfold hload at hk
  split at hk
  · rename_i b o
    have := den_lit_inv hv; subst this
    split at hk
    · rename_i ds e
      obtain ⟨⟨h1, h2⟩, hk⟩ := hk
      have hh := ((holds_cells hs e).drop o).take T.size
      rw [Nat.zero_add] at hh
      exact core b o _ hh (by simp; omega) h2 hk
    · exact hk.elim
  · rename_i ds
    obtain ⟨b, o, rfl, hh⟩ := holds_iptr hs hv
    obtain ⟨⟨h1, h2⟩, hk⟩ := hk
    exact core b o _ (hh.take T.size) (by simp; omega) h2 hk
  · exact hk.elim

theorem hres_sound (hs : Sim w0 M σ w) {tmps : Array Value} {e : Env} (he : EnvOk M tmps e) : ∀ (rs : List ResultVar) (hok : ∀ r ∈ rs, resOk tmps.size r = true) (K : List D → Prop), hres P rs e σ K →
    ∃ vs ds, (rs.mapM (resOne tmps)).run P w = .ok vs w ∧ vs.length = ds.length ∧ (∀ (i : Nat) (d : D), ds[i]? = some d → Den M (vs.getD i undef) d) ∧ K ds := by
  intro rs
  induction rs with
  | nil => intro hok K h; exact ⟨[], [], by simp, rfl, by simp, h⟩
  | cons r rs ih =>
    intro hok K h
    have h1 : ∃ v d, (resOne tmps r).run P w = .ok v w ∧ Den M v d ∧ hres P rs e σ fun ds => K (d :: ds) := by
      cases r with
      | tmp t => exact ⟨_, _, rfl, he t (by simpa [resOk] using hok (.tmp t) (by simp)), h⟩
      | cell a t =>
        obtain ⟨X, hX, hk⟩ := wtx_inv h
        have ha := he a (by simpa [resOk] using hok (.cell a t) (by simp))
        obtain ⟨u, x, r1, r2, r3⟩ := load_pure (P := P) hs (tx_some hX).1 ha hk
        refine ⟨u, x, ?_, r2, r3⟩
        have : ∃ ad, tmps.getD a undef = .pointer (some ad) := by
          unfold hload at hk
          split at hk
          · rename_i e1; rw [e1] at ha; exact ⟨_, den_lit_inv ha⟩
          · rename_i e1; rw [e1] at ha
            obtain ⟨b, o, hv, -⟩ := holds_iptr hs ha
            exact ⟨_, hv⟩
          · exact hk.elim
        obtain ⟨ad, hv⟩ := this
        rw [hv] at r1
        simpa [resOne, hv, asAddr, Instr.loadAt, Instr.sureAddr] using r1
    obtain ⟨v, d, r1, r2, r3⟩ := h1
    obtain ⟨vs, ds, q1, q2, q3, q4⟩ := ih (fun r hr => hok r (by simp [hr])) _ r3
    refine ⟨v :: vs, d :: ds, ?_, by simp [q2], fun i x hx => ?_, q4⟩
    · simp [List.mapM_cons, r1, q1]
    · cases i with
      | zero => simp at hx; subst hx; simpa using r2
      | succ i => simp at hx; simpa using q3 i x hx

theorem results_list (fn : Func) (tmps : Array Value) (w : World) (vs : List Value) (h : (fn.results.toList.mapM (resOne tmps)).run P w = .ok vs w) : (results fn tmps).run P w = .ok (match vs with | [v] => v | vs => .tuple vs.toArray) w := by
  have h2 : (fn.results.mapM (resOne tmps)).run P w = .ok vs.toArray w := by
    rw [Array.mapM_eq_mapM_toList, Sem.run_map, h]; rfl
  have h3 : results fn tmps = (do let vs ← fn.results.mapM (resOne tmps); pure (if h : vs.size = 1 then vs[0] else .tuple vs)) := by
    unfold results
    congr 1
  rw [h3]
  simp only [Sem.run_bind, h2, Result.andThen_ok, Sem.run_pure]
  match vs with
  | [] => simp
  | [v] => simp
  | v :: u :: vs => simp

theorem HCalls.of_body (hm : P.follows .mixedOrders = true) (lm : Bool) {f : FuncId} {fn : Func} {c : Code} (hf : P.funcs[f]? = some fn) (hb : fn.body = some c) (hc : codeOk fn.ntmps c = true) (hr : fn.results.toList.all (resOk fn.ntmps) = true) {ds : List D} (hds : ds.length ≤ fn.ntmps) {Q : D → Store → Prop}
    (h : hwp P lm c (retK P fn Q) (initEnv ds) σ) : HCalls P f ds σ Q := by
  intro w0 M w vs hs hl hd
  have hsz : (vs ++ Array.replicate (fn.ntmps - vs.size) undef).size = fn.ntmps := by simp; omega
  have henv : EnvOk M (vs ++ Array.replicate (fn.ntmps - vs.size) undef) (initEnv ds) := by
    intro t ht
    simp only [Array.getD_eq_getD_getElem?, Array.getElem?_append, initEnv]
    by_cases h1 : t < vs.size
    · rw [if_pos h1]
      have := hd t (ds[t]'(by omega)) (List.getElem?_eq_getElem (by omega))
      rw [Array.getD_eq_getD_getElem?] at this
      simpa [List.getD_eq_getElem?_getD, show t < ds.length by omega] using this
    · rw [if_neg h1]
      have : (Array.replicate (fn.ntmps - vs.size) undef)[t - vs.size]?.getD undef = undef := by
        rw [Array.getElem?_replicate]; split <;> rfl
      rw [this]
      simp [List.getD_eq_getElem?_getD, show ds.length ≤ t by omega]
      exact .lit _
  refine calls_of_wp hf hb (wp_mono (hwp_sound hm lm c (by rw [← hsz] at hc; exact hc) _ M M _ _ _ w (MLe.refl M) hs henv rfl rfl h) ?_)
  intro ex a w' hp
  have fin : (∃ M' e s, MLe M M' ∧ Sim w0 M' s w' ∧ EnvOk M' a.tmps e ∧ a.tmps.size = (vs ++ Array.replicate (fn.ntmps - vs.size) undef).size ∧ a.defers = [] ∧ hres P fn.results.toList e s fun ds => ∃ s', SLe s' s ∧ Q (tupD ds) s') →
      a.defers = [] ∧ ∃ v, (results fn a.tmps).run P w' = .ok v w' ∧ ∃ u M' d σ', Ending.returned v = .returned u ∧ MLe M M' ∧ Sim w0 M' σ' w' ∧ Den M' u d ∧ Q d σ' := by
    rintro ⟨M', e, s, h1, h2, h3, h4, h5, h6⟩
    refine ⟨h5, ?_⟩
    rw [hsz] at h4
    obtain ⟨us, xs, q1, q2, q3, s', q4, q5⟩ := hres_sound h2 h3 fn.results.toList (by rw [h4]; exact List.all_eq_true.1 hr) _ h6
    refine ⟨_, results_list fn a.tmps w' us q1, _, M', _, s', rfl, h1, h2.drop q4, ?_, q5⟩
    match us, xs, q2 with
    | [], [], _ => exact .tup _ _ rfl (by simp)
    | [u], [x], _ => exact q3 0 x rfl
    | u :: u2 :: us, x :: x2 :: xs, q2 => exact .tup _ _ (by simpa using q2) (fun i d hi => by have := q3 i d hi; simpa [Array.getD_eq_getD_getElem?, List.getD_eq_getElem?_getD] using this)
  cases ex with
  | normal => exact fin hp
  | ret => exact fin hp
  | exit id => obtain ⟨M', e, s, -, -, -, -, -, h6⟩ := hp; exact h6.elim
  | _ => exact hp.elim
end Go.HL
