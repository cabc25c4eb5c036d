/- HL, part E: comparing and reckoning. -/
import Derived.Test.YtdbbbhjajkobaabHLD
import Derived.WalkSpells
import Derived.LaidEql
set_option linter.unusedVariables false
set_option linter.unusedSimpArgs false
namespace Go.HL
open Go.RowKit
variable {P : Program} {w0 w : World} {M : Mem} {σ : Store}

theorem bytes_ext {a b : ByteArray} (h : a.toList = b.toList) : a = b := by
  rw [ByteArray.toList_eq, ByteArray.toList_eq] at h
  obtain ⟨⟨x⟩⟩ := a
  obtain ⟨⟨y⟩⟩ := b
  simp at h
  subst h; rfl
theorem toList_beq (a b : ByteArray) : (a.toList == b.toList) = decide (a = b) := by
  by_cases h : a = b
  · subst h; simp
  · have : ¬ a.toList = b.toList := fun e => h (bytes_ext e)
    simp [h, this]

/-! structs of numbers, texts and bools, field by field -/
def kindOf (P : Program) (t : TypeId) : KK := match P.underlying t with
  | some d => kkOf d
  | none => .other
def eqKinds (P : Program) (t : TypeId) : Option (List KK) :=
  match P.underlying t with
  | some (.struct fs) =>
    if P.stoodInHeld t = false ∧ P.eqGuardType P.depth t = false ∧ fs.toList.all (fun f => f.name != "_") = true ∧ fs.toList.map (·.offset) = List.range fs.toList.length then some (fs.toList.map fun f => kindOf P f.type) else none
  | _ => none
def eqCells : List KK → List D → List D → Option Bool
  | [], [], [] => some true
  | .int _ :: ks, .lit (.int k a) :: xs, .lit (.int k' b) :: ys => if k = k' then (eqCells ks xs ys).map (decide (a = b) && ·) else none
  | .str :: ks, .lit (.string a) :: xs, .lit (.string b) :: ys => (eqCells ks xs ys).map (decide (a = b) && ·)
  | .bool :: ks, .lit (.bool a) :: xs, .lit (.bool b) :: ys => (eqCells ks xs ys).map (decide (a = b) && ·)
  | _, _, _ => none

theorem run_part_one {t : TypeId} {d : TypeDesc} (hu : P.underlying t = some d) (ha : (kkOf d).agg = false) (vs : Array Value) (o : Nat) (v : Value) (hv : vs[o]? = some v) (w : World) : (part t vs o).run P w = .ok v w := by
  simp [part, run_isAgg hu, ha, hv]

theorem eqFields_run (n : Nat) (w : World) : ∀ (fs : List Field) (o : Nat) (xs ys : Array Value) (dx dy : List D) (r : Bool), fs.all (fun f => f.name != "_") = true → fs.map (·.offset) = List.range' o fs.length →
    (∀ i d, dx[i]? = some d → Den M (xs.getD (o + i) undef) d) → (∀ i d, dy[i]? = some d → Den M (ys.getD (o + i) undef) d) → (o + dx.length ≤ xs.size) → (o + dy.length ≤ ys.size) →
    eqCells (fs.map fun f => kindOf P f.type) dx dy = some r → (Op.eqFields (n + 1) xs ys fs).run P w = .ok r w := by
  intro fs
  induction fs with
  | nil =>
    intro o xs ys dx dy r _ _ _ _ _ _ he
    cases dx <;> cases dy <;> simp [eqCells] at he
    subst he
    simp [Op.eqFields]
  | cons f fs ih =>
    intro o xs ys dx dy r hn ho hx hy lx ly he
    simp only [List.all_cons, Bool.and_eq_true, bne_iff_ne, ne_eq] at hn
    simp only [List.map_cons, List.length_cons, List.range'_succ, List.cons.injEq] at ho
    obtain ⟨ho1, ho2⟩ := ho
    cases dx with
    | nil => simp [eqCells] at he
    | cons x dx =>
    cases dy with
    | nil => simp only [List.map_cons] at he; unfold eqCells at he; split at he <;> simp_all
    | cons y dy =>
    have hx0 := hx 0 x rfl
    have hy0 := hy 0 y rfl
    have hxr : ∀ i d, dx[i]? = some d → Den M (xs.getD (o + 1 + i) undef) d := fun i d hd => by have := hx (i + 1) d (by simpa using hd); rwa [show o + (i + 1) = o + 1 + i from by omega] at this
    have hyr : ∀ i d, dy[i]? = some d → Den M (ys.getD (o + 1 + i) undef) d := fun i d hd => by have := hy (i + 1) d (by simpa using hd); rwa [show o + (i + 1) = o + 1 + i from by omega] at this
    simp only [List.length_cons] at lx ly
    have gx : xs[o]? = some (xs.getD o undef) := by simp [Array.getD, show o < xs.size by omega]
    have gy : ys[o]? = some (ys.getD o undef) := by simp [Array.getD, show o < ys.size by omega]
    have hstep : ∀ (kd : TypeDesc) (vx vy : Value) (b : Bool) (r' : Bool), P.underlying f.type = some kd → (kkOf kd).agg = false → xs.getD o undef = vx → ys.getD o undef = vy →
        (Op.equalIn (n + 1) f.type vx vy).run P w = .ok b w → eqCells (fs.map fun f => kindOf P f.type) dx dy = some r' → r = (b && r') → (Op.eqFields (n + 1) xs ys (f :: fs)).run P w = .ok r w := by
      intro kd vx vy b r' hu ha ex ey hb hr' hr
      have h1 := run_part_one hu ha xs o vx (by rw [gx, ex]) w
      have h2 := run_part_one hu ha ys o vy (by rw [gy, ey]) w
      rw [← ho1] at h1 h2
      have h3 := ih (o + 1) xs ys dx dy r' (by simpa using hn.2) ho2 hxr hyr (by omega) (by omega) hr'
      subst hr
      cases b <;> simp [Op.eqFields, hn.1, h1, h2, hb, h3]
    simp only [List.map_cons] at he
    cases hu : P.underlying f.type with
    | none => simp [kindOf, hu, eqCells] at he
    | some kd =>
      have hk : kindOf P f.type = kkOf kd := by simp [kindOf, hu]
      rw [hk] at he
      unfold eqCells at he
      split at he
      · rename_i h0 _ _; simp at h0
      · rename_i k0 ks k a xs' k' b ys' e1 e2 e3
        simp only [List.cons.injEq] at e1 e2 e3
        obtain ⟨e1, rfl⟩ := e1; obtain ⟨rfl, rfl⟩ := e2; obtain ⟨rfl, rfl⟩ := e3
        split at he
        · rename_i hkk; subst hkk
          obtain ⟨r', hr', hr⟩ := Option.map_eq_some_iff.1 he
          cases kd <;> simp [kkOf] at e1
          refine hstep _ _ _ (decide (a = b)) r' hu rfl (den_lit_inv hx0) (den_lit_inv hy0) ?_ hr' hr.symm
          simp [Op.equalIn, run_underlying hu]
          rfl
        · cases he
      · rename_i ks a xs' b ys' e1 e2 e3
        simp only [List.cons.injEq] at e1 e2 e3
        obtain ⟨e1, rfl⟩ := e1; obtain ⟨rfl, rfl⟩ := e2; obtain ⟨rfl, rfl⟩ := e3
        obtain ⟨r', hr', hr⟩ := Option.map_eq_some_iff.1 he
        cases kd <;> simp [kkOf] at e1
        refine hstep _ _ _ (decide (a = b)) r' hu rfl (den_lit_inv hx0) (den_lit_inv hy0) ?_ hr' hr.symm
        rw [run_equalIn_string w n f.type a b hu, toList_beq]
      · rename_i ks a xs' b ys' e1 e2 e3
        simp only [List.cons.injEq] at e1 e2 e3
        obtain ⟨e1, rfl⟩ := e1; obtain ⟨rfl, rfl⟩ := e2; obtain ⟨rfl, rfl⟩ := e3
        obtain ⟨r', hr', hr⟩ := Option.map_eq_some_iff.1 he
        cases kd <;> simp [kkOf] at e1
        refine hstep _ _ _ (decide (a = b)) r' hu rfl (den_lit_inv hx0) (den_lit_inv hy0) ?_ hr' hr.symm
        rw [run_equalIn_bool' w n f.type a b hu]
        cases a <;> cases b <;> rfl
      · cases he

/-! two operands -/
def intBin (op : BinOp) (k : IntKind) (a b : Int) (K : D → Prop) : Prop :=
  match op with
  | .add => K (.int k (k.wrap (a + b)))
  | .sub => K (.int k (k.wrap (a - b)))
  | .mul => K (.int k (k.wrap (a * b)))
  | .quo => b ≠ 0 ∧ K (.int k (k.wrap (a.tdiv b)))
  | .rem => b ≠ 0 ∧ K (.int k (a.tmod b))
  | .eql => K (.bool (decide (a = b)))
  | .neq => K (.bool (!decide (a = b)))
  | .lss => K (.bool (decide (a < b)))
  | .leq => K (.bool (decide (a ≤ b)))
  | .gtr => K (.bool (decide (b < a)))
  | .geq => K (.bool (decide (b ≤ a)))
  | .and => K (.int k (k.wrap (BitVec.ofInt k.bits a &&& BitVec.ofInt k.bits b).toNat))
  | .or => K (.int k (k.wrap (BitVec.ofInt k.bits a ||| BitVec.ofInt k.bits b).toNat))
  | .xor => K (.int k (k.wrap (BitVec.ofInt k.bits a ^^^ BitVec.ofInt k.bits b).toNat))
  | .andNot => K (.int k (k.wrap (BitVec.ofInt k.bits a &&& ~~~ BitVec.ofInt k.bits b).toNat))
  | _ => False
def strBin (op : BinOp) (a b : ByteArray) (K : D → Prop) : Prop :=
  match op with
  | .add => (a.size + b.size : Int) ≤ 9223372036854775807 ∧ K (.str (a ++ b))
  | .eql => K (.bool (decide (a = b)))
  | .neq => K (.bool (!decide (a = b)))
  | .lss => K (.bool (Op.bytesLess a.toList b.toList))
  | .gtr => K (.bool (!(Op.bytesLess a.toList b.toList || decide (a = b))))
  | .leq => K (.bool (Op.bytesLess a.toList b.toList || decide (a = b)))
  | .geq => K (.bool (!Op.bytesLess a.toList b.toList))
  | _ => False
def eqBin (op : BinOp) (r : Bool) (K : D → Prop) : Prop :=
  match op with
  | .eql => K (.bool r)
  | .neq => K (.bool (!r))
  | _ => False
def KK.isPtr : KK → Bool
  | .ptr _ => true
  | _ => false
def KK.isSlice : KK → Bool
  | .slice _ => true
  | _ => false
def KK.isIface : KK → Bool
  | .iface => true
  | _ => false
def KK.isBool : KK → Bool
  | .bool => true
  | _ => false
def isC : Operand → Bool
  | .const _ => true
  | _ => false
def isShift : BinOp → Bool
  | .shl | .shr => true
  | _ => false
def shBin (op : BinOp) (k : IntKind) (a b : Int) (K : D → Prop) : Prop :=
  match op with
  | .shl => 0 ≤ b ∧ K (.int k (k.wrap (a * 2 ^ (min b.toNat k.bits))))
  | .shr => 0 ≤ b ∧ K (.int k (a.fdiv (2 ^ (min b.toNat k.bits))))
  | _ => False
def hbin (P : Program) (op : BinOp) (t : TypeId) (T : TI) (c : Bool) (a b : D) (K : D → Prop) : Prop :=
  match a, b with
  | .lit (.int k x), .lit (.int k' y) => if isShift op then shBin op k x y K else k = k' ∧ intBin op k x y K
  | .lit (.string x), .lit (.string y) => strBin op x y K
  | .lit (.bool x), .lit (.bool y) => T.kk.isBool = true ∧ eqBin op (decide (x = y)) K
  | .lit .nilIface, .lit .nilIface => (T.kk.isIface = true ∧ c = true) ∧ eqBin op true K
  | .lit (.iface _ _), .lit .nilIface => T.kk.isIface = true ∧ eqBin op false K
  | .lit .nilIface, .lit (.iface _ _) => T.kk.isIface = true ∧ eqBin op false K
  | .lit (.iface t1 (.int k x)), .lit (.iface t2 (.int k' y)) => (T.kk.isIface = true ∧ t1 = t2 ∧ k = k' ∧ kindOf P t1 = .int k ∧ ((P.info? t1).map (·.comparable)) = some true) ∧ eqBin op (decide (x = y)) K
  | .lit (.pointer none), .lit (.pointer none) => T.kk.isPtr = true ∧ eqBin op true K
  | .lit (.pointer (some _)), .lit (.pointer none) => T.kk.isPtr = true ∧ eqBin op false K
  | .iptr _, .lit (.pointer none) => T.kk.isPtr = true ∧ eqBin op false K
  | .list es tok, .list [] .nil => T.kk.isSlice = true ∧ ∀ r, (r = true → es = []) → (tok = .nil → r = true) → eqBin op r K
  | .agg xs, .agg ys => match (eqKinds P t).bind (fun ks => eqCells ks xs ys) with
    | some r => eqBin op r K
    | none => False
  | _, _ => False

theorem kk_desc {t : TypeId} {T : TI} (hT : ti P t = some T) : ∃ d, P.underlying t = some d ∧ T.kk = kkOf d := by
  obtain ⟨it, dt, hit, hdt, e1, -⟩ := ti_some hT
  exact ⟨dt, hdt, e1⟩

theorem eqBin_goes (h : Sim w0 M σ w) (op : BinOp) (t : TypeId) (vx vy : Value) (r : Bool) {K : D → Store → Prop} (hk : eqBin op r (K · σ)) {g : Sem Unit} (hg : g.run P w = .ok () w)
    (hr : (Op.equal t vx vy).run P w = .ok r w) (he : binOp .eql t vx vy = (do pure (.bool (← Op.equal t vx vy)))) (hn : binOp .neq t vx vy = (do pure (.bool (!(← Op.equal t vx vy))))) :
    Goes P (do g; binOp op t vx vy) w0 M w K := by
  cases op <;> simp only [eqBin] at hk
  · exact Goes.pure h (by simp [hg, he, hr]) (.lit _) hk
  · exact Goes.pure h (by simp [hg, hn, hr]) (.lit _) hk

theorem guard_quiet (op : BinOp) (t : TypeId) (x y : Operand) (a b : Value) (w : World) (h1 : ∀ p q, a = .agg p → b = .agg q → P.eqGuardType P.depth t = false) (h2 : a = .nilIface → b = .nilIface → (isC x || isC y) = true) : (eqGuard op t x y a b).run P w = .ok () w := by
  cases op <;> first
    | (simp [eqGuard]; done)
    | (cases a <;> cases b <;> first
        | (simp [eqGuard]; done)
        | (have := h2 rfl rfl; cases x <;> cases y <;> simp_all [isC, eqGuard]; done)
        | (have := h1 _ _ rfl rfl; simp [eqGuard, this]))

section
variable (w : World) (n : Nat) {t : TypeId}
theorem eqI_nil_nil {ms} (hu : P.underlying t = some (.interface ms)) : (Op.equalIn (n + 1) t .nilIface .nilIface).run P w = .ok true w := by simp [Op.equalIn, run_underlying hu]
theorem eqI_val_nil {ms} (hu : P.underlying t = some (.interface ms)) (u : TypeId) (x : Value) : (Op.equalIn (n + 1) t (.iface u x) .nilIface).run P w = .ok false w := by simp [Op.equalIn, run_underlying hu]
theorem eqI_nil_val {ms} (hu : P.underlying t = some (.interface ms)) (u : TypeId) (x : Value) : (Op.equalIn (n + 1) t .nilIface (.iface u x)).run P w = .ok false w := by simp [Op.equalIn, run_underlying hu]
theorem eqI_int {ms} (hu : P.underlying t = some (.interface ms)) (u : TypeId) (k : IntKind) (i : TypeInfo) (hd : P.underlying u = some (.int k)) (hi : P.info? u = some i) (hc : i.comparable = true) (p q : Int) :
    (Op.equalIn (n + 2) t (.iface u (.int k p)) (.iface u (.int k q))).run P w = .ok (decide (p = q)) w := by
  simp [Op.equalIn, run_underlying hu, run_underlying hd, typeInfo, hi, hc]
  rfl
theorem eqI_pnil {e} (hu : P.underlying t = some (.pointer e)) (b : Option Addr) : (Op.equalIn (n + 1) t (.pointer b) (.pointer none)).run P w = .ok b.isNone w := by
  cases b <;> simp [Op.equalIn, run_underlying hu]
theorem eqI_snil {e} (hu : P.underlying t = some (.slice e)) (a : Option Addr) (m c : Nat) : (Op.equalIn (n + 1) t (.slice a m c) (.slice none 0 0)).run P w = .ok a.isNone w := by
  cases a <;> simp [Op.equalIn, run_underlying hu]
end

theorem hbin_goes (h : Sim w0 M σ w) (op : BinOp) {t : TypeId} {T : TI} (hT : ti P t = some T) (x y : Operand) {va vb : Value} {a b : D} (ha : Den M va a) (hb : Den M vb b) {K : D → Store → Prop}
    (hk : hbin P op t T (isC x || isC y) a b (K · σ)) : Goes P (do eqGuard op t x y va vb; binOp op t va vb) w0 M w K := by
  obtain ⟨d, hu, hkk⟩ := kk_desc hT
  unfold hbin at hk
  split at hk
  · -- whole numbers
    rename_i k p k' q
    have := den_lit_inv ha; subst this
    have := den_lit_inv hb; subst this
    have hg := guard_quiet (P := P) op t x y (.int k p) (.int k' q) w (by simp) (by simp)
    split at hk
    · cases op <;> simp_all only [isShift, shBin] <;> first | (cases ‹false = true›; done) | skip
      · refine Goes.pure h ?_ (.lit _) hk.2
        simp [hg, binOp, Op.shift, show ¬ q < 0 by omega]
      · refine Goes.pure h ?_ (.lit _) hk.2
        simp [hg, binOp, Op.shift, show ¬ q < 0 by omega]
    · obtain ⟨rfl, hk⟩ := hk
      cases op <;> simp only [intBin] at hk <;> first
        | exact hk.elim
        | (refine Goes.pure h ?_ (.lit _) hk; simp [hg, binOp, Op.intArith]; done)
        | (refine Goes.pure h ?_ (.lit _) hk.2; simp [hg, binOp, Op.intDiv, hk.1]; done)
        | (refine Goes.pure h ?_ (.lit _) hk; simp [hg, binOp, Op.intCmp]; done)
        | (refine Goes.pure h ?_ (.lit _) hk; simp [hg, binOp, Op.intCmp, Bool.beq_eq_decide_eq]; done)
        | (refine Goes.pure h ?_ (.lit _) hk; simp only [Sem.run_bind, hg, Result.andThen_ok, binOp, ne_eq, not_true_eq_false, if_false, Op.intCmp, Sem.run_pure]; rfl)
        | (refine Goes.pure h ?_ (.lit _) hk; simp only [Sem.run_bind, hg, Result.andThen_ok, binOp, ne_eq, not_true_eq_false, if_false, Op.intBits, Sem.run_pure])
  · -- texts
    rename_i p q
    have := den_lit_inv ha; subst this
    have := den_lit_inv hb; subst this
    have hg := guard_quiet (P := P) op t x y (.string p) (.string q) w (by simp) (by simp)
    cases op <;> simp only [strBin] at hk <;> first
      | exact hk.elim
      | skip
    · refine Goes.pure h ?_ (.lit _) hk.2
      have : ¬ (((p.size + q.size : Nat) : Int) > IntKind.i64.max) := by simp [IntKind.max, IntKind.signed, IntKind.bits]; omega
      simp only [Sem.run_bind, hg, Result.andThen_ok, binOp, Op.stringOp]
      rw [if_neg this]; rfl
    all_goals (refine Goes.pure h ?_ (.lit _) hk; simp [hg, binOp, Op.stringOp, toList_beq])
  · -- bools
    rename_i p q
    have := den_lit_inv ha; subst this
    have := den_lit_inv hb; subst this
    have hg := guard_quiet (P := P) op t x y (.bool p) (.bool q) w (by simp) (by simp)
    have hu2 : P.underlying t = some .bool := by
      rw [hu]; have := hk.1; rw [hkk] at this
      cases d <;> simp [kkOf, KK.isBool] at this
      rfl
    refine eqBin_goes h op t _ _ (decide (p = q)) hk.2 hg ?_ (by simp [binOp]) (by simp [binOp])
    have := run_equalIn_bool' w 9999 t p q hu2
    simp only [Op.equal, Op.maxDepth]
    rw [this]; cases p <;> cases q <;> rfl
  · -- nil, nil
    have := den_lit_inv ha; subst this
    have := den_lit_inv hb; subst this
    have hg := guard_quiet (P := P) op t x y .nilIface .nilIface w (by simp) (fun _ _ => hk.1.2)
    obtain ⟨⟨hi, -⟩, hk⟩ := hk
    refine eqBin_goes h op t _ _ true hk hg ?_ (by simp [binOp]) (by simp [binOp])
    rw [hkk] at hi
    cases d <;> simp [kkOf, KK.isIface] at hi
    exact eqI_nil_nil w 9999 hu
  · -- a value, nil
    have := den_lit_inv ha; subst this
    have := den_lit_inv hb; subst this
    rename_i u x'
    have hg := guard_quiet (P := P) op t x y (.iface u x') .nilIface w (by simp) (by simp)
    obtain ⟨hi, hk⟩ := hk
    refine eqBin_goes h op t _ _ false hk hg ?_ (by simp [binOp]) (by simp [binOp])
    rw [hkk] at hi
    cases d <;> simp [kkOf, KK.isIface] at hi
    exact eqI_val_nil w 9999 hu u x'
  · -- nil, a value
    have := den_lit_inv ha; subst this
    have := den_lit_inv hb; subst this
    rename_i u x'
    have hg := guard_quiet (P := P) op t x y .nilIface (.iface u x') w (by simp) (by simp)
    obtain ⟨hi, hk⟩ := hk
    refine eqBin_goes h op t _ _ false hk hg ?_ (by simp [binOp]) (by simp [binOp])
    rw [hkk] at hi
    cases d <;> simp [kkOf, KK.isIface] at hi
    exact eqI_nil_val w 9999 hu u x'
  · -- two numbers behind an interface
    have := den_lit_inv ha; subst this
    have := den_lit_inv hb; subst this
    rename_i t1 k p t2 k' q
    have hg := guard_quiet (P := P) op t x y (.iface t1 (.int k p)) (.iface t2 (.int k' q)) w (by simp) (by simp)
    obtain ⟨⟨hi, rfl, rfl, hkd, hcm⟩, hk⟩ := hk
    refine eqBin_goes h op t _ _ (decide (p = q)) hk hg ?_ (by simp [binOp]) (by simp [binOp])
    rw [hkk] at hi
    cases d <;> simp [kkOf, KK.isIface] at hi
    obtain ⟨i, hi1, hi2⟩ := Option.map_eq_some_iff.1 hcm
    unfold kindOf at hkd
    split at hkd
    · rename_i dd hdd
      cases dd <;> simp [kkOf] at hkd
      subst hkd
      exact eqI_int w 9998 hu t1 _ i hdd hi1 hi2 p q
    · cases hkd
  · -- nil pointers
    have := den_lit_inv ha; subst this
    have := den_lit_inv hb; subst this
    have hg := guard_quiet (P := P) op t x y (.pointer none) (.pointer none) w (by simp) (by simp)
    obtain ⟨hi, hk⟩ := hk
    refine eqBin_goes h op t _ _ true hk hg ?_ (by simp [binOp]) (by simp [binOp])
    rw [hkk] at hi
    cases d <;> simp [kkOf, KK.isPtr] at hi
    exact eqI_pnil w 9999 hu _
  · -- a pointer, nil
    have := den_lit_inv ha; subst this
    have := den_lit_inv hb; subst this
    rename_i p
    have hg := guard_quiet (P := P) op t x y (.pointer (some p)) (.pointer none) w (by simp) (by simp)
    obtain ⟨hi, hk⟩ := hk
    refine eqBin_goes h op t _ _ false hk hg ?_ (by simp [binOp]) (by simp [binOp])
    rw [hkk] at hi
    cases d <;> simp [kkOf, KK.isPtr] at hi
    exact eqI_pnil w 9999 hu _
  · -- a pointer into what stays, nil
    have := den_lit_inv hb; subst this
    obtain ⟨b', o', rfl, -⟩ := holds_iptr h ha
    have hg := guard_quiet (P := P) op t x y (.pointer (some ⟨b', o', none⟩)) (.pointer none) w (by simp) (by simp)
    obtain ⟨hi, hk⟩ := hk
    refine eqBin_goes h op t _ _ false hk hg ?_ (by simp [binOp]) (by simp [binOp])
    rw [hkk] at hi
    cases d <;> simp [kkOf, KK.isPtr] at hi
    exact eqI_pnil w 9999 hu _
  · -- a slice, nil
    rename_i es tok
    obtain ⟨a1, c1, k1, b1, o1, cv1, rfl, -, -, ha1, -, -, -, ht1⟩ := den_list_inv ha
    obtain ⟨a2, c2, k2, b2, o2, cv2, rfl, -, -, -, -, -, -, ht2⟩ := den_list_inv hb
    simp only [TokOk] at ht2
    obtain ⟨rfl, -, rfl⟩ := ht2
    have hg := guard_quiet (P := P) op t x y (.slice a1 es.length c1) (.slice none 0 0) w (by simp) (by simp)
    obtain ⟨hi, hk⟩ := hk
    refine eqBin_goes h op t _ _ a1.isNone (hk _ (fun e => ?_) (fun e => ?_)) hg ?_ (by simp [binOp]) (by simp [binOp])
    · cases es with
      | nil => rfl
      | cons e0 es => rw [ha1 (by simp)] at e; cases e
    · subst e; rw [ht1.1]; rfl
    · rw [hkk] at hi
      cases d <;> simp [kkOf, KK.isSlice] at hi
      exact eqI_snil w 9999 hu _ _ _
  · -- structs
    rename_i xs ys
    split at hk
    · rename_i r hr
      obtain ⟨ks, hks, hr⟩ := Option.bind_eq_some_iff.1 hr
      unfold eqKinds at hks
      rw [hu] at hks
      cases d <;> simp only at hks <;> first | (cases hks; done) | skip
      rename_i fs
      split at hks
      · rename_i hc
        obtain ⟨c1, c2, c3, c4⟩ := hc
        injection hks with hks
        subst hks
        cases ha with
        | agg va _ sa oa da =>
        cases hb with
        | agg vb _ sb ob db =>
        have hg := guard_quiet (P := P) op t x y (.agg va) (.agg vb) w (fun _ _ _ _ => c2) (by simp)
        refine eqBin_goes h op t _ _ r hk hg ?_ (by simp [binOp]) (by simp [binOp])
        have hf : P.fieldsOf t = fs := by simp [Program.fieldsOf, hu]
        have := run_equalIn_struct (P := P) w 9999 t va vb (by rw [hf]; exact hu) c1
        simp only [Op.equal, Op.maxDepth]
        rw [this, hf]
        exact eqFields_run (M := M) 9998 w fs.toList 0 va vb xs ys r c3 (by rw [c4, List.range_eq_range']) (fun i d hd => by rw [Nat.zero_add]; exact da i d hd) (fun i d hd => by rw [Nat.zero_add]; exact db i d hd) (by omega) (by omega) hr
      · cases hks
    · exact hk.elim
  · exact hk.elim
end Go.HL
