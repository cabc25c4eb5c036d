/- HL, part K: an operation, told plainly; a call's contract. -/
import Derived.Test.YtdbbbhjajkobaabHLJ
set_option linter.unusedVariables false
set_option linter.unusedSimpArgs false
namespace Go.HL
open Go.RowKit
variable {P : Program} {w0 w : World} {M : Mem} {σ : Store}

abbrev Env := Nat → D
def upd (e : Env) (t : Nat) (d : D) : Env := fun s => if s = t then d else e s
def ev (env : Env) : Operand → D
  | .tmp t => env t
  | .const v => zD v
  | .global g => .ptr g 0
  | .func f => .lit (.func (.func f) #[] #[])
def EnvOk (M : Mem) (tmps : Array Value) (env : Env) : Prop := ∀ t, t < tmps.size → Den M (tmps.getD t undef) (env t)
theorem EnvOk.mono {M M' : Mem} (hM : MLe M M') {tmps : Array Value} {env : Env} (h : EnvOk M tmps env) : EnvOk M' tmps env := fun t ht => (h t ht).mono hM
def opndOk (N : Nat) : Operand → Bool
  | .tmp t => decide (t < N)
  | _ => true
theorem den_ev {a : Act} {env : Env} (h : EnvOk M a.tmps env) {x : Operand} (hx : opndOk a.tmps.size x = true) : Den M (a.eval x) (ev env x) := by
  cases x with
  | tmp t => exact h t (by simpa [opndOk] using hx)
  | const v => exact den_zD v
  | global g => exact .lit _
  | func f => exact .lit _

/-- A call of function f with these: it returns, and of what it hands back, and of the store behind it, Q holds. -/
def HCalls (P : Program) (f : FuncId) (ds : List D) (σ : Store) (Q : D → Store → Prop) : Prop :=
  ∀ (w0 : World) (M : Mem) (w : World) (vs : Array Value), Sim w0 M σ w → vs.size = ds.length → (∀ (i : Nat) (d : D), ds[i]? = some d → Den M (vs.getD i undef) d) →
    Calls P f vs w fun e w' => ∃ v M' d σ', e = .returned v ∧ MLe M M' ∧ Sim w0 M' σ' w' ∧ Den M' v d ∧ Q d σ'
/-- The same of a function without a body, that the model answers for. -/
def HExt (P : Program) (f : FuncId) (ds : List D) (σ : Store) (Q : D → Store → Prop) : Prop :=
  ∀ (w0 : World) (M : Mem) (w : World) (vs : Array Value), Sim w0 M σ w → vs.size = ds.length → (∀ (i : Nat) (d : D), ds[i]? = some d → Den M (vs.getD i undef) d) →
    ∃ v w' M' d σ', (callFunc f vs).run P w = .ok (.value v) w' ∧ MLe M M' ∧ Sim w0 M' σ' w' ∧ Den M' v d ∧ Q d σ'
def entersB (P : Program) (f : FuncId) : Bool := match P.funcs[f]? with
  | some fn => fn.name != "runtime.NumGoroutine" && fn.body.isSome
  | none => false

theorem HCalls.mono {f : FuncId} {ds : List D} {Q Q' : D → Store → Prop} (h : HCalls P f ds σ Q) (hq : ∀ d σ', Q d σ' → Q' d σ') : HCalls P f ds σ Q' :=
  fun w0 M w vs hs hl hd => (h w0 M w vs hs hl hd).mono fun e w' ⟨v, M', d, σ', r1, r2, r3, r4, r5⟩ => ⟨v, M', d, σ', r1, r2, r3, r4, hq d σ' r5⟩

/-- What is asked of a type: all in one. -/
structure TX where
  T : TI
  zf : Bool
  fk : Bool
  zs : Bool
  zo : Bool
def tx (P : Program) (t : TypeId) : Option TX := (ti P t).map fun T => ⟨T, zfit P t, fldsKnown P t, zsize P t, zone P t⟩
theorem tx_some {t : TypeId} {X : TX} (h : tx P t = some X) : ti P t = some X.T ∧ X.zf = zfit P t ∧ X.fk = fldsKnown P t ∧ X.zs = zsize P t ∧ X.zo = zone P t := by
  unfold tx at h
  obtain ⟨T, hT, rfl⟩ := Option.map_eq_some_iff.1 h
  exact ⟨hT, rfl, rfl, rfl, rfl⟩
def wtx (P : Program) (t : TypeId) (f : TX → Prop) : Prop := match tx P t with
  | some X => f X
  | none => False
def wel (P : Program) (T : TI) (f : TX → Prop) : Prop := match T.kk with
  | .slice e => wtx P e f
  | _ => False
def hcond (d : D) (A B : Prop) : Prop := match d with
  | .lit (.bool t) => (t = true → A) ∧ (t = false → B)
  | _ => False
def capOk : D → Bool
  | .lit (.slice (some _) n c) => decide (n ≤ c)
  | .lit (.string _) => false
  | _ => true
def srcT (P : Program) (u : TypeId) (x : D) : Prop := wtx P u fun X => (X.T.kk.isSlice = true ∨ X.T.kk.isStr = true)

def hbuiltin (P : Program) (lm : Bool) (b : Builtin) (ts : Array TypeId) (ds : List D) (σ : Store) (K : D → Store → Prop) : Prop :=
  match b, ts.toList, ds with
  | .len, [t], [d] => wtx P t fun X => hlen X.T d σ (K · σ)
  | .append, [t, u], [a, x] => wtx P t fun X => wel P X.T fun E => (srcT P u x ∧ E.zf = true ∧ E.zs = true ∧ SizedAs a E.T.size ∧ SizedAs x E.T.size ∧ (∀ s, x = .str s → E.T.size = 1)) ∧ happend lm E.T a x σ K
  | .min, _, ds => hminmax false ds (K · σ)
  | .max, _, ds => hminmax true ds (K · σ)
  | .clear, [t], [d] => wtx P t fun X => wel P X.T fun E => E.zf = true ∧ hclear E.T d σ K
  | .copy, [t, u], [d, x] => wtx P t fun X => wel P X.T fun E => (SizedAs x E.T.size ∧ (∀ s, x = .str s → E.T.size = 1) ∧ 0 < E.T.size) ∧ hcopy E.T d x σ K
  | _, _, _ => False

def hnil (d : D) (K : D → Prop) : Prop := match d with
  | .lit (.pointer (some a)) => K (.lit (.pointer (some a)))
  | .iptr ds => K (.iptr ds)
  | .lit (.func (.func f) x y) => K (.lit (.func (.func f) x y))
  | _ => False

def hop (P : Program) (lm : Bool) (o : Op) (env : Env) (σ : Store) (K : D → Store → Prop) : Prop :=
  match o with
  | .move x => K (ev env x) σ
  | .assign x => K (ev env x) σ
  | .pick c a b => hcond (ev env c) (K (ev env a) σ) (K (ev env b) σ)
  | .alloc e => wtx P e fun X => X.zf = true ∧ match X.T.zero with
    | some zs => ∀ b, σ b = none → K (.ptr b 0) (σ.set b (.cells zs))
    | none => False
  | .box _ v => fitD (ev env v) = true ∧ ∀ b, σ b = none → K (.ptr b 0) (σ.set b (.cells (cellsD (ev env v))))
  | .build t parts => wtx P t fun X => (X.zf = true ∧ X.fk = true) ∧ hbuild X.T (parts.toList.map fun p => (p.1, ev env p.2)) (K · σ)
  | .buildSlice t n parts => wtx P t fun X => wel P X.T fun E => E.zf = true ∧ hbuildSlice lm E.T n (parts.toList.map fun p => (p.1, ev env p.2)) σ K
  | .load t a => wtx P t fun X => hload X.T (ev env a) σ (K · σ)
  | .store t a x => wtx P t fun X => hstore X.T (ev env a) (ev env x) σ (K (.lit undef))
  | .nilCheck x => hnil (ev env x) (K · σ)
  | .binOp op t x y _ => wtx P t fun X => hbin P op t X.T (isC x || isC y) (ev env x) (ev env y) (K · σ)
  | .unOp op _ x => hun op (ev env x) (K · σ)
  | .convert s t x => wtx P s fun S => wtx P t fun X => (SizedAs (ev env x) 1 ∧ ∀ y, ev env x = .str y → y.size ≤ 9223372036854775807) ∧ hconv P S.T X.T (ev env x) (K · σ)
  | .makeInterface t x => wtx P t fun X => hiface X.T t (ev env x) (K · σ)
  | .makeFunc fn first captured => match litsOf (first.toList.map (ev env)), litsOf (captured.toList.map (ev env)) with
    | some f, some c => K (.lit (.func fn f.toArray c.toArray)) σ
    | _, _ => False
  | .makeMap _ none => ∀ b, σ b = none → K (.lit (.map (some b))) (σ.set b (.hmap []))
  | .makeSlice t l c => wtx P t fun X => wel P X.T fun E => E.zf = true ∧ hmake X.T E.T (ev env l) (ev env c) σ K
  | .slice t x lo hi none => wtx P t fun X => match X.T.kk with
    | .str => (match ev env x with | .lit (.string _) => True | _ => False) ∧ hslice 0 (ev env x) (lo.map (ev env)) (hi.map (ev env)) (K · σ)
    | .slice e => wtx P e fun E => (SizedAs (ev env x) E.T.size ∧ capOk (ev env x) = true) ∧ hslice E.T.size (ev env x) (lo.map (ev env)) (hi.map (ev env)) (K · σ)
    | _ => False
  | .slice t x lo (some hi) (some mx) => wtx P t fun X => match X.T.kk with
    | .slice e => wtx P e fun E => hslice3 E.T.size (ev env x) (lo.map (ev env)) (ev env hi) (ev env mx) (K · σ)
    | _ => False
  | .fieldAddr t x f => wtx P t fun X => hfieldAddr X.T (ev env x) f (K · σ)
  | .field t x f => wtx P t fun X => hfield X.T (ev env x) f (K · σ)
  | .indexAddr t x i => wtx P t fun X => wel P X.T fun E => SizedAs (ev env x) E.T.size ∧ hindexAddr E.T.size (ev env x) (ev env i) (K · σ)
  | .index t x i => wtx P t fun X => X.T.kk.isStr = true ∧ hindex (ev env x) (ev env i) (K · σ)
  | .lookup t x i ok => wtx P t fun X => wtx P (mapElem X.T.kk) fun E => E.zo = true ∧ hlookup P X.T E.T (ev env x) (ev env i) ok σ (K · σ)
  | .mapUpdate t m k v => wtx P t fun X => hmapUpdate P X.T (ev env m) (ev env k) (ev env v) σ (K (.lit undef))
  | .extract x i => hextract (ev env x) i (K · σ)
  | .call c => match c.callee with
    | .builtin b => hbuiltin P lm b c.argTypes (c.args.toList.map (ev env)) σ K
    | .value f => match ev env f with
      | .lit (.func (.func g) first caps) =>
        if entersB P g then HCalls P g (first.toList.map .lit ++ c.args.toList.map (ev env) ++ caps.toList.map .lit) σ K
        else HExt P g (first.toList.map .lit ++ c.args.toList.map (ev env) ++ caps.toList.map .lit) σ K
      | _ => False
    | _ => False
  | _ => False

/-- What an operation leaves: its value in its place. -/
def After (w0 : World) (M : Mem) (o : Oper) (a : Act) (K : D → Store → Prop) (a' : Act) (w' : World) : Prop :=
  ∃ v M' d σ', a' = a.put o.dst v ∧ MLe M M' ∧ Sim w0 M' σ' w' ∧ Den M' v d ∧ K d σ'

theorem wp_of_goes {o : Oper} {a : Act} {Q : Exit → Act → World → Prop} {K : D → Store → Prop} {s : Sem Value} (he : execOp a.eval o = (do pure (.value (← s)))) (h : Goes P s w0 M w K) : o.wp P a w (After w0 M o a K) Q := by
  obtain ⟨v, w', M', d, σ', h1, h2, h3, h4, h5⟩ := h
  unfold Oper.wp
  rw [he]
  simp only [Sem.run_bind, h1, Result.andThen_ok, Sem.run_pure]
  exact ⟨v, M', d, σ', rfl, h2, h3, h4, h5⟩
theorem wp_of_unit {o : Oper} {a : Act} {Q : Exit → Act → World → Prop} {K : D → Store → Prop} {s : Sem Unit} (he : execOp a.eval o = (do s; pure .skip)) (h : ∃ w' σ', s.run P w = .ok () w' ∧ Sim w0 M σ' w' ∧ K (.lit undef) σ') : o.wp P a w (After w0 M o a K) Q := by
  obtain ⟨w', σ', h1, h2, h3⟩ := h
  unfold Oper.wp
  rw [he]
  simp only [Sem.run_bind, h1, Result.andThen_ok, Sem.run_pure]
  exact ⟨undef, M, .lit undef, σ', rfl, MLe.refl M, h2, .lit _, h3⟩

def opOk (N : Nat) (o : Op) : Bool := o.operands.toList.all (opndOk N)


theorem opOk_mem {N : Nat} {o : Op} (h : opOk N o = true) {x : Operand} (hx : x ∈ o.operands) : opndOk N x = true := by
  unfold opOk at h
  rw [List.all_eq_true] at h
  exact h x (by simpa using hx)

theorem wtx_inv {t : TypeId} {f : TX → Prop} (h : wtx P t f) : ∃ X, tx P t = some X ∧ f X := by
  unfold wtx at h
  split at h
  · rename_i X hX; exact ⟨X, hX, h⟩
  · exact h.elim
theorem wel_inv {T : TI} {f : TX → Prop} (h : wel P T f) : ∃ e X, T.kk = .slice e ∧ tx P e = some X ∧ f X := by
  unfold wel at h
  split at h
  · rename_i e he
    obtain ⟨X, h1, h2⟩ := wtx_inv h
    exact ⟨e, X, he, h1, h2⟩
  · exact h.elim

theorem parts_den {a : Act} {env : Env} (he : EnvOk M a.tmps env) (parts : Array (Nat × Operand)) (hok : ∀ p ∈ parts, opndOk a.tmps.size p.2 = true) :
    ∀ (j i : Nat) (v : Value) (k : Nat) (d : D), (parts.map fun p => (p.1, a.eval p.2))[j]? = some (i, v) → (parts.toList.map fun p => (p.1, ev env p.2))[j]? = some (k, d) → i = k ∧ Den M v d := by
  intro j i v k d h1 h2
  rw [Array.getElem?_map] at h1
  obtain ⟨p, hp, e1⟩ := Option.map_eq_some_iff.1 h1
  rw [List.getElem?_map, Array.getElem?_toList, hp] at h2
  simp only [Option.map_some, Option.some.injEq, Prod.mk.injEq] at h2 e1
  obtain ⟨rfl, rfl⟩ := e1
  obtain ⟨rfl, rfl⟩ := h2
  exact ⟨rfl, den_ev he (hok p (Array.mem_of_getElem? hp))⟩

theorem args_den {a : Act} {env : Env} (he : EnvOk M a.tmps env) (xs : Array Operand) (hok : ∀ x ∈ xs, opndOk a.tmps.size x = true) :
    ∀ (i : Nat) (d : D), (xs.toList.map (ev env))[i]? = some d → Den M ((xs.map a.eval).getD i undef) d := by
  intro i d hd
  rw [List.getElem?_map, Array.getElem?_toList] at hd
  obtain ⟨x, hx, rfl⟩ := Option.map_eq_some_iff.1 hd
  obtain ⟨h1, h2⟩ := Array.getElem?_eq_some_iff.1 hx
  have : (xs.map a.eval).getD i undef = a.eval x := by simp [Array.getD, h1, h2]
  rw [this]; exact den_ev he (hok x (Array.mem_of_getElem? hx))

theorem builtin_goes (h : Sim w0 M σ w) (lm : Bool) (b : Builtin) (ts : Array TypeId) (ty : TypeId) (cs : Array Bool) (vs : Array Value) (ds : List D) (hl : vs.size = ds.length) (hd : ∀ (i : Nat) (d : D), ds[i]? = some d → Den M (vs.getD i undef) d) {K : D → Store → Prop} (hk : hbuiltin P lm b ts ds σ K) :
    ∃ s : Sem Value, builtin b ts ty cs vs = (do pure (.value (← s))) ∧ Goes P s w0 M w K := by
  have two : ∀ x y : D, ds = [x, y] → ∃ u v, vs = #[u, v] ∧ Den M u x ∧ Den M v y := by
    rintro x y rfl
    have h0 := hd 0 x rfl
    have h1 := hd 1 y rfl
    simp at hl
    refine ⟨vs.getD 0 undef, vs.getD 1 undef, ?_, h0, h1⟩
    apply Array.ext' ; apply List.ext_getElem? ; intro i
    match i with
    | 0 => simp [Array.getD, show 0 < vs.size by omega]
    | 1 => simp [Array.getD, show 1 < vs.size by omega]
    | n + 2 => simp; omega
  have one : ∀ x : D, ds = [x] → ∃ u, vs = #[u] ∧ Den M u x := by
    rintro x rfl
    have h0 := hd 0 x rfl
    simp at hl
    refine ⟨vs.getD 0 undef, ?_, h0⟩
    apply Array.ext' ; apply List.ext_getElem? ; intro i
    match i with
    | 0 => simp [Array.getD, show 0 < vs.size by omega]
    | n + 1 => simp; omega
  unfold hbuiltin at hk
  split at hk
  · rename_i t d hts
    obtain ⟨X, hX, hk⟩ := wtx_inv hk
    obtain ⟨u, rfl, hu⟩ := one _ rfl
    obtain rfl : ts = #[t] := by apply Array.ext'; exact hts
    exact ⟨_, rfl, len_goes h (tx_some hX).1 ty hu hk⟩
  · rename_i t u a x hts
    obtain ⟨X, hX, hk⟩ := wtx_inv hk
    obtain ⟨e, E, hkk, hE, ⟨hsrc, hzf, hzs, s1, s2, s3⟩, hk⟩ := wel_inv hk
    obtain ⟨va, vx, rfl, h1, h2⟩ := two _ _ rfl
    obtain rfl : ts = #[t, u] := by apply Array.ext'; exact hts
    obtain ⟨U, hU, hsrc⟩ := wtx_inv hsrc
    obtain ⟨du, hdu, hku⟩ := kk_desc (tx_some hU).1
    obtain ⟨e1, z1, -, z2, -⟩ := tx_some hE
    rw [hku] at hsrc
    rcases hsrc with hsrc | hsrc
    · obtain ⟨e2, rfl⟩ := isSlice_desc hsrc
      exact ⟨_, rfl, append_goes h (tx_some hX).1 e1 hkk (.inl hdu) (by rw [← z1]; exact hzf) (by rw [← z2]; exact hzs) lm h1 h2 s1 s2 s3 ty hk⟩
    · obtain rfl := isStr_desc hsrc
      exact ⟨_, rfl, append_goes h (e2 := 0) (tx_some hX).1 e1 hkk (.inr hdu) (by rw [← z1]; exact hzf) (by rw [← z2]; exact hzs) lm h1 h2 s1 s2 s3 ty hk⟩
  · exact ⟨_, rfl, min_goes h _ _ _ _ hl hd hk⟩
  · exact ⟨_, rfl, max_goes h _ _ _ _ hl hd hk⟩
  · rename_i t d hts
    obtain ⟨X, hX, hk⟩ := wtx_inv hk
    obtain ⟨e, E, hkk, hE, hzf, hk⟩ := wel_inv hk
    obtain ⟨u, rfl, hu⟩ := one _ rfl
    obtain rfl : ts = #[t] := by apply Array.ext'; exact hts
    obtain ⟨e1, z1, -, z2, -⟩ := tx_some hE
    exact ⟨_, rfl, clear_goes h (tx_some hX).1 e1 hkk (by rw [← z1]; exact hzf) ty hu hk⟩
  · rename_i t u d x hts
    obtain ⟨X, hX, hk⟩ := wtx_inv hk
    obtain ⟨e, E, hkk, hE, ⟨s1, s2, s3⟩, hk⟩ := wel_inv hk
    obtain ⟨va, vx, rfl, h1, h2⟩ := two _ _ rfl
    obtain rfl : ts = #[t, u] := by apply Array.ext'; exact hts
    exact ⟨_, rfl, copy_goes h (tx_some hX).1 (tx_some hE).1 hkk ty h1 h2 s1 s2 s3 hk⟩
  · exact hk.elim

theorem optD {a : Act} {env : Env} (he : EnvOk M a.tmps env) (lo : Option Operand) (hok : ∀ x, lo = some x → opndOk a.tmps.size x = true) : (∀ d, lo.map (ev env) = some d → ∃ v, lo.map a.eval = some v ∧ Den M v d) ∧ (lo.map (ev env) = none → lo.map a.eval = none) := by
  cases lo with
  | none => simp
  | some x => exact ⟨fun d hd => by simp at hd; subst hd; exact ⟨_, rfl, den_ev he (hok x rfl)⟩, by simp⟩

theorem hop_sound (h : Sim w0 M σ w) {a : Act} {env : Env} (he : EnvOk M a.tmps env) (lm : Bool) (o : Oper) (hok : opOk a.tmps.size o.op = true) {K : D → Store → Prop} (hk : hop P lm o.op env σ K) (Q : Exit → Act → World → Prop) :
    o.wp P a w (After w0 M o a K) Q := by
  obtain ⟨dst, op, type, pos, after, guard⟩ := o
  simp only at hok hk
  have dv : ∀ x, x ∈ op.operands → Den M (a.eval x) (ev env x) := fun x hx => den_ev he (opOk_mem hok hx)
  cases op with
  | move x => exact wp_of_goes (s := pure (a.eval x)) rfl (Goes.pure h rfl (dv x (by simp [Op.operands])) hk)
  | assign x => exact wp_of_goes (s := pure (a.eval x)) rfl (Goes.pure h rfl (dv x (by simp [Op.operands])) hk)
  | pick c x y =>
    have dc := dv c (by simp [Op.operands])
    simp only [hop, hcond] at hk
    split at hk
    · rename_i t e
      rw [e] at dc
      have := den_lit_inv dc
      refine wp_of_goes (s := do pure (if ← asBool (a.eval c) then a.eval x else a.eval y)) (by simp [execOp]) ?_
      cases t
      · exact Goes.pure h (by simp [this, asBool]) (dv y (by simp [Op.operands])) (hk.2 rfl)
      · exact Goes.pure h (by simp [this, asBool]) (dv x (by simp [Op.operands])) (hk.1 rfl)
    · exact hk.elim
  | alloc e =>
    obtain ⟨X, hX, hz, hk⟩ := wtx_inv hk
    obtain ⟨e1, z1, -⟩ := tx_some hX
    split at hk
    · rename_i zs hzs
      exact wp_of_goes rfl (alloc_goes h e1 (by rw [← z1]; exact hz) hzs hk)
    · exact hk.elim
  | box e v => exact wp_of_goes rfl (box_goes h e (dv v (by simp [Op.operands])) hk.1 hk.2)
  | build t parts =>
    obtain ⟨X, hX, ⟨hz, hf⟩, hk⟩ := wtx_inv hk
    obtain ⟨e1, z1, z2, -⟩ := tx_some hX
    exact wp_of_goes rfl (build_goes h e1 (by rw [← z1]; exact hz) (by rw [← z2]; exact hf) _ _ (by simp) (parts_den he parts (fun p hp => opOk_mem hok (by simp [Op.operands]; exact ⟨p.1, by simpa using hp⟩))) hk)
  | buildSlice t n parts =>
    obtain ⟨X, hX, hk⟩ := wtx_inv hk
    obtain ⟨e, E, hkk, hE, hz, hk⟩ := wel_inv hk
    obtain ⟨e1, z1, -⟩ := tx_some hE
    exact wp_of_goes rfl (buildSlice_goes h (tx_some hX).1 e1 hkk (by rw [← z1]; exact hz) lm n _ _ (by simp) (parts_den he parts (fun p hp => opOk_mem hok (by simp [Op.operands]; exact ⟨p.1, by simpa using hp⟩))) hk)
  | load t x =>
    obtain ⟨X, hX, hk⟩ := wtx_inv hk
    exact wp_of_goes rfl (load_goes h (tx_some hX).1 (dv x (by simp [Op.operands])) hk)
  | store t x y =>
    obtain ⟨X, hX, hk⟩ := wtx_inv hk
    exact wp_of_unit rfl (store_goes h (tx_some hX).1 (dv x (by simp [Op.operands])) (dv y (by simp [Op.operands])) hk)
  | nilCheck x =>
    have dx := dv x (by simp [Op.operands])
    simp only [hop, hnil] at hk
    split at hk
    · rename_i ad e
      rw [e] at dx
      have := den_lit_inv dx
      refine wp_of_goes (s := pure (a.eval x)) (by simp [execOp, this]) (Goes.pure h rfl ?_ hk)
      rw [this]; exact .lit _
    · rename_i ds e
      rw [e] at dx
      obtain ⟨b, o', hv, -⟩ := holds_iptr h dx
      exact wp_of_goes (s := pure (a.eval x)) (by simp [execOp, hv]) (Goes.pure h rfl dx hk)
    · rename_i f p q e
      rw [e] at dx
      have := den_lit_inv dx
      refine wp_of_goes (s := pure (a.eval x)) (by simp [execOp, this]) (Goes.pure h rfl ?_ hk)
      rw [this]; exact .lit _
    · exact hk.elim
  | binOp op' t x y yt =>
    obtain ⟨X, hX, hk⟩ := wtx_inv hk
    exact wp_of_goes rfl (hbin_goes h op' (tx_some hX).1 x y (dv x (by simp [Op.operands])) (dv y (by simp [Op.operands])) hk)
  | unOp op' t x => exact wp_of_goes rfl (un_goes h op' (dv x (by simp [Op.operands])) hk)
  | convert s t x =>
    obtain ⟨S, hS, hk⟩ := wtx_inv hk
    obtain ⟨X, hX, ⟨s1, s2⟩, hk⟩ := wtx_inv hk
    exact wp_of_goes rfl (conv_goes h (tx_some hS).1 (tx_some hX).1 (dv x (by simp [Op.operands])) s1 hk s2)
  | makeInterface t x =>
    obtain ⟨X, hX, hk⟩ := wtx_inv hk
    exact wp_of_goes rfl (iface_goes h (tx_some hX).1 (dv x (by simp [Op.operands])) hk)
  | makeFunc fn first captured =>
    simp only [hop] at hk
    split at hk
    · rename_i f c e1 e2
      have q1 := litsOf_spec (M := M) _ ((first.map a.eval).toList) f e1 (by simp) (fun i d hd => by
        have := args_den he first (fun x hx => opOk_mem hok (by simp [Op.operands]; exact .inl hx)) i d hd
        simpa [List.getD_eq_getElem?_getD, Array.getD_eq_getD_getElem?] using this)
      have q2 := litsOf_spec (M := M) _ ((captured.map a.eval).toList) c e2 (by simp) (fun i d hd => by
        have := args_den he captured (fun x hx => opOk_mem hok (by simp [Op.operands]; exact .inr hx)) i d hd
        simpa [List.getD_eq_getElem?_getD, Array.getD_eq_getD_getElem?] using this)
      refine wp_of_goes (s := Instr.makeFunc fn (first.map a.eval) (captured.map a.eval)) rfl (Goes.pure h rfl ?_ hk)
      rw [← q1, ← q2]
      exact .lit _
    · exact hk.elim
  | makeMap t r =>
    cases r with
    | some _ => exact hk.elim
    | none => exact wp_of_goes (s := Instr.makeMap t none) rfl ⟨_, _, M, _, _, by simp [Instr.makeMap], MLe.refl M, h.alloc_map, .lit _, hk _ h.fresh⟩
  | makeSlice t l c =>
    obtain ⟨X, hX, hk⟩ := wtx_inv hk
    obtain ⟨e, E, hkk, hE, hz, hk⟩ := wel_inv hk
    obtain ⟨e1, z1, -⟩ := tx_some hE
    exact wp_of_goes rfl (make_goes h (tx_some hX).1 e1 hkk (by rw [← z1]; exact hz) (dv l (by simp [Op.operands])) (dv c (by simp [Op.operands])) hk)
  | slice t x lo hi mx =>
    cases mx with
    | some mx =>
      cases hi with
      | none => exact hk.elim
      | some hi =>
        obtain ⟨X, hX, hk⟩ := wtx_inv hk
        obtain ⟨l1, l2⟩ := optD he lo (fun y hy => opOk_mem hok (by subst hy; simp [Op.operands]))
        split at hk
        · rename_i e hkk
          obtain ⟨E, hE, hk⟩ := wtx_inv hk
          exact wp_of_goes rfl (slice3_goes h (tx_some hX).1 (tx_some hE).1 hkk (dv x (by simp [Op.operands])) l1 l2 (dv hi (by simp [Op.operands])) (dv mx (by simp [Op.operands])) hk)
        · exact hk.elim
    | none =>
      obtain ⟨X, hX, hk⟩ := wtx_inv hk
      obtain ⟨l1, l2⟩ := optD he lo (fun y hy => opOk_mem hok (by subst hy; simp [Op.operands]))
      obtain ⟨h1, h2⟩ := optD he hi (fun y hy => opOk_mem hok (by subst hy; simp [Op.operands]))
      split at hk
      · rename_i hkk
        obtain ⟨hs, hk⟩ := hk
        split at hs
        · rename_i s e
          exact wp_of_goes rfl (slice_str_goes h (tx_some hX).1 hkk (dv x (by simp [Op.operands])) l1 h1 l2 h2 e hk)
        · exact hs.elim
      · rename_i e hkk
        obtain ⟨E, hE, ⟨s1, s2⟩, hk⟩ := wtx_inv hk
        refine wp_of_goes rfl (slice_goes h (tx_some hX).1 (tx_some hE).1 hkk (dv x (by simp [Op.operands])) s1 l1 h1 l2 h2 (fun s e => ?_) (fun b o' n c e => ?_) hk)
        · rw [e] at s2; simp [capOk] at s2
        · rw [e] at s2; simpa [capOk] using s2
      · exact hk.elim
  | fieldAddr t x f =>
    obtain ⟨X, hX, hk⟩ := wtx_inv hk
    exact wp_of_goes rfl (fieldAddr_goes h (tx_some hX).1 (dv x (by simp [Op.operands])) f hk)
  | field t x f =>
    obtain ⟨X, hX, hk⟩ := wtx_inv hk
    exact wp_of_goes rfl (field_goes h (tx_some hX).1 (dv x (by simp [Op.operands])) f hk)
  | indexAddr t x i =>
    obtain ⟨X, hX, hk⟩ := wtx_inv hk
    obtain ⟨e, E, hkk, hE, s1, hk⟩ := wel_inv hk
    exact wp_of_goes rfl (indexAddr_goes h (tx_some hX).1 (tx_some hE).1 hkk (dv x (by simp [Op.operands])) (dv i (by simp [Op.operands])) s1 hk)
  | index t x i =>
    obtain ⟨X, hX, hkk, hk⟩ := wtx_inv hk
    have hs : X.T.kk = .str := by cases hq : X.T.kk <;> simp [hq, KK.isStr] at hkk; rfl
    exact wp_of_goes rfl (index_goes h (tx_some hX).1 hs (dv x (by simp [Op.operands])) (dv i (by simp [Op.operands])) hk)
  | lookup t x i ok =>
    obtain ⟨X, hX, hk⟩ := wtx_inv hk
    obtain ⟨E, hE, hz, hk⟩ := wtx_inv hk
    obtain ⟨e1, -, -, -, z1⟩ := tx_some hE
    exact wp_of_goes rfl (lookup_goes h (tx_some hX).1 e1 (by rw [← z1]; exact hz) (dv x (by simp [Op.operands])) (dv i (by simp [Op.operands])) ok hk)
  | mapUpdate t m k v =>
    obtain ⟨X, hX, hk⟩ := wtx_inv hk
    exact wp_of_unit rfl (mapUpdate_goes h (tx_some hX).1 (dv m (by simp [Op.operands])) (dv k (by simp [Op.operands])) (dv v (by simp [Op.operands])) hk)
  | extract x i => exact wp_of_goes rfl (extract_goes h (dv x (by simp [Op.operands])) i hk)
  | call c =>
    obtain ⟨callee, args, ts⟩ := c
    simp only [hop] at hk
    have ad := args_den he args (fun x hx => opOk_mem hok (by simp [Op.operands, Call.operands]; exact .inr hx))
    split at hk
    · rename_i b
      obtain ⟨s, hs, hg⟩ := builtin_goes h lm b ts type (args.map fun | .const _ => true | _ => false) (args.map a.eval) _ (by simp) ad hk
      refine wp_of_goes (s := s) ?_ hg
      simp only [execOp, resolve]
      rw [← hs]
      rfl
    · rename_i f
      have df := dv f (by simp [Op.operands, Call.operands])
      split at hk
      · rename_i g first caps e
        rw [e] at df
        have hf := den_lit_inv df
        have hlen : (first ++ args.map a.eval ++ caps).size = (first.toList.map D.lit ++ args.toList.map (ev env) ++ caps.toList.map D.lit).length := by simp
        have hden : ∀ (i : Nat) (d : D), (first.toList.map D.lit ++ args.toList.map (ev env) ++ caps.toList.map D.lit)[i]? = some d → Den M ((first ++ args.map a.eval ++ caps).getD i undef) d := by
          intro i d hd
          rw [List.getElem?_append] at hd
          simp only [Array.getD_eq_getD_getElem?]
          rw [Array.getElem?_append]
          have hl1 : (first.toList.map D.lit ++ args.toList.map (ev env)).length = (first ++ args.map a.eval).size := by simp
          rw [hl1] at hd
          split at hd
          · rename_i h1
            rw [if_pos h1, Array.getElem?_append]
            rw [List.getElem?_append] at hd
            have hl2 : (first.toList.map D.lit).length = first.size := by simp
            rw [hl2] at hd
            split at hd
            · rename_i h2
              rw [if_pos h2]
              rw [List.getElem?_map, Array.getElem?_toList] at hd
              obtain ⟨y, hy, rfl⟩ := Option.map_eq_some_iff.1 hd
              rw [hy]; exact .lit _
            · rename_i h2
              rw [if_neg h2]
              have := ad _ d hd
              simpa [Array.getD_eq_getD_getElem?] using this
          · rename_i h1
            rw [if_neg h1]
            rw [List.getElem?_map, Array.getElem?_toList] at hd
            obtain ⟨y, hy, rfl⟩ := Option.map_eq_some_iff.1 hd
            rw [hy]; exact .lit _
        have hrun : (execOp a.eval { dst, op := .call ⟨.value f, args, ts⟩, type, pos, after, guard }).run P w = (callFunc g (first ++ args.map a.eval ++ caps)).run P w := by
          simp [execOp, resolve, hf, Deferred.ofValue, invoke]
        unfold Oper.wp
        rw [hrun]
        split at hk
        · rename_i hent
          unfold entersB at hent
          split at hent
          · rename_i fn hfn
            simp at hent
            have : (callFunc g (first ++ args.map a.eval ++ caps)).run P w = .ok (.enter g (first ++ args.map a.eval ++ caps)) w := by
              obtain ⟨bd, hb⟩ := Option.isSome_iff_exists.1 hent.2
              simp [callFunc, hfn, hent.1, hb]
            rw [this]
            simp only [Oper.upon]
            refine (hk w0 M w _ h hlen hden).mono fun e w' ⟨v, M', d, σ', r1, r2, r3, r4, r5⟩ => ?_
            subst r1
            exact ⟨v, M', d, σ', rfl, r2, r3, r4, r5⟩
          · cases hent
        · obtain ⟨v, w', M', d, σ', r1, r2, r3, r4, r5⟩ := hk w0 M w _ h hlen hden
          rw [r1]
          exact ⟨v, M', d, σ', rfl, r2, r3, r4, r5⟩
      · exact hk.elim
    · exact hk.elim
  | _ => exact hk.elim
end Go.HL
