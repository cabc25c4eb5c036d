/- HL, part M: the rewriting by which a function's code is told. -/
import Derived.Test.YtdbbbhjajkobaabHLL
set_option linter.unusedVariables false
set_option linter.unusedSimpArgs false
namespace Go.HL
open Go.RowKit
variable {P : Program} {lm : Bool}



/-- What rewriting shall not go into. -/
class Box (α : Sort _) where
  un : α
def bx {α : Sort _} [B : Box α] : α := B.un
@[simp ↓] theorem bx_app {α β : Sort _} (K : α → β) (a : α) : (@bx (α → β) ⟨K⟩) a = K a := (rfl)
@[simp ↓] theorem bx_n (K : Kont) : (@bx Kont ⟨K⟩).n = K.n := (rfl)
@[simp ↓] theorem bx_r (K : Kont) : (@bx Kont ⟨K⟩).r = K.r := (rfl)
@[simp ↓] theorem bx_x (K : Kont) : (@bx Kont ⟨K⟩).x = K.x := (rfl)
theorem upd_at (e : Env) (t : Nat) (d : D) (s : Nat) : upd e t d s = if s = t then d else e s := rfl
@[simp] theorem upd_same (e : Env) (t : Nat) (d : D) : upd e t d t = d := by simp [upd]
@[simp] theorem upd_ne (e : Env) (t : Nat) (d : D) (s : Nat) (h : (s == t) = false) : upd e t d s = e s := by simp at h; simp [upd, h]
@[simp] theorem updo_some (e : Env) (t : Nat) (d : D) : updo e (some t) d = upd e t d := (rfl)
@[simp] theorem updo_none (e : Env) (d : D) : updo e none d = e := (rfl)
@[simp] theorem init_zero (d : D) (ds : List D) : initEnv (d :: ds) 0 = d := (rfl)
@[simp] theorem init_succ (d : D) (ds : List D) (n : Nat) : initEnv (d :: ds) (n + 1) = initEnv ds n := (rfl)
@[simp ↓] theorem ev_tmp (e : Env) (t : Nat) : ev e (.tmp t) = e t := (rfl)
@[simp ↓] theorem ev_int (e : Env) (k : IntKind) (n : Int) : ev e (.const (.int k n)) = .lit (.int k n) := (rfl)
@[simp ↓] theorem ev_bool (e : Env) (b : Bool) : ev e (.const (.bool b)) = .lit (.bool b) := (rfl)
@[simp ↓] theorem ev_str (e : Env) (b : ByteArray) : ev e (.const (.string b)) = .lit (.string b) := (rfl)
@[simp ↓] theorem ev_slice (e : Env) : ev e (.const (.slice none 0 0)) = .list [] .nil := (rfl)
@[simp ↓] theorem ev_nilIface (e : Env) : ev e (.const .nilIface) = .lit .nilIface := (rfl)
@[simp ↓] theorem ev_nilFunc (e : Env) : ev e (.const .nilFunc) = .lit .nilFunc := (rfl)
@[simp ↓] theorem ev_map (e : Env) (m : Option Nat) : ev e (.const (.map m)) = .lit (.map m) := (rfl)
@[simp ↓] theorem ev_ptr (e : Env) (m : Option Addr) : ev e (.const (.pointer m)) = .lit (.pointer m) := (rfl)
@[simp ↓] theorem ev_agg (e : Env) (cs : Array Value) : ev e (.const (.agg cs)) = zD (.agg cs) := (rfl)
@[simp ↓] theorem ev_global (e : Env) (g : Nat) : ev e (.global g) = .ptr g 0 := (rfl)
@[simp ↓] theorem ev_func (e : Env) (f : FuncId) : ev e (.func f) = .lit (.func (.func f) #[] #[]) := (rfl)

/-! ### Control -/
@[simp ↓] theorem hwp_seq (a b : Code) (K : Kont) (e : Env) (s : Store) : hwp P lm (.seq a b) K e s = hwp P lm a (@bx _ ⟨{ K with n := fun e s => hwp P lm b K e s }⟩) e s := (rfl)
@[simp ↓] theorem hwp_skip (K : Kont) (e : Env) (s : Store) : hwp P lm .skip K e s = K.n e s := (rfl)
@[simp ↓] theorem hwp_ret (K : Kont) (e : Env) (s : Store) : hwp P lm .ret K e s = K.r e s := (rfl)
@[simp ↓] theorem hwp_exit (i : Nat) (K : Kont) (e : Env) (s : Store) : hwp P lm (.exit i) K e s = K.x i e s := (rfl)
@[simp ↓] theorem hwp_block (i : Nat) (c : Code) (K : Kont) (e : Env) (s : Store) : hwp P lm (.block i c) K e s = hwp P lm c (@bx _ ⟨{ K with x := fun j e s => if j = i then K.n e s else K.x j e s }⟩) e s := (rfl)
@[simp ↓] theorem hwp_cond (c : Operand) (a b : Code) (K : Kont) (e : Env) (s : Store) : hwp P lm (.cond c a b) K e s = hcond (ev e c) (@bx _ ⟨hwp P lm a K e s⟩) (@bx _ ⟨hwp P lm b K e s⟩) := (rfl)
@[simp ↓] theorem hwp_region (i : Nat) (ops : List Oper) (K : Kont) (e : Env) (s : Store) : hwp P lm (.region i ⟨ops⟩ false) K e s = hops P lm (@bx _ ⟨ops⟩) (@bx _ ⟨ops⟩) e s (@bx _ ⟨K.n⟩) := (rfl)
@[simp ↓] theorem hwp_draw (i : Nat) (ops : Array Oper) (K : Kont) (e : Env) (s : Store) : hwp P lm (.region i ops true) K e s = hdraw P lm (@bx _ ⟨ops⟩) e s (@bx _ ⟨K.n⟩) := (rfl)
@[simp ↓] theorem hwp_loop (c : Code) (K : Kont) (e : Env) (s : Store) : hwp P lm (.loop c) K e s = hloop (@bx _ ⟨hwp P lm c⟩) (@bx _ ⟨K⟩) e s := (rfl)
@[simp] theorem hcond_true (A B : Prop) : hcond (.lit (.bool true)) (@bx _ ⟨A⟩) (@bx _ ⟨B⟩) = A := by simp [hcond, bx]
@[simp] theorem hcond_false (A B : Prop) : hcond (.lit (.bool false)) (@bx _ ⟨A⟩) (@bx _ ⟨B⟩) = B := by simp [hcond, bx]
@[simp low] theorem hcond_bool (t : Bool) (A B : Prop) : hcond (.lit (.bool t)) (@bx _ ⟨A⟩) (@bx _ ⟨B⟩) = ((t = true → A) ∧ (t = false → B)) := (rfl)
@[simp] theorem hops_nil (all : List Oper) (e : Env) (s : Store) (N : Env → Store → Prop) : hops P lm (@bx _ ⟨all⟩) (@bx _ ⟨[]⟩) e s N = N e s := (rfl)
@[simp] theorem hops_cons (all : List Oper) (d : Option Tmp) (op : Op) (ty : TypeId) (pos : String) (af : Array Edge) (r : List Oper) (e : Env) (s : Store) (N : Env → Store → Prop) :
    hops P lm (@bx _ ⟨all⟩) (@bx _ ⟨{ dst := d, op := op, type := ty, pos := pos, after := af, guard := none } :: r⟩) e s N = hop P lm op e s (@bx _ ⟨fun v s' => hops P lm (@bx _ ⟨all⟩) (@bx _ ⟨r⟩) (updo e d v) s' N⟩) := (rfl)
/-- A guard, as its place says. -/
def dstAt : List Oper → Nat → Option Tmp
  | [], _ => none
  | o :: _, 0 => o.dst
  | _ :: r, n + 1 => dstAt r n
@[simp ↓] theorem dstAt_zero (d : Option Tmp) (op : Op) (ty : TypeId) (pos : String) (af : Array Edge) (g : Option (Nat × Bool)) (r : List Oper) : dstAt ({ dst := d, op := op, type := ty, pos := pos, after := af, guard := g } :: r) 0 = d := (rfl)
@[simp ↓] theorem dstAt_succ (o : Oper) (r : List Oper) (n : Nat) : dstAt (o :: r) (n + 1) = dstAt r n := (rfl)
theorem dstAt_eq (l : List Oper) (j : Nat) : (l[j]?).bind (·.dst) = dstAt l j := by
  induction l generalizing j with
  | nil => simp [dstAt]
  | cons o r ih => cases j with
    | zero => simp [dstAt]
    | succ n => simpa [dstAt] using ih n
def hgd (d : D) (want : Bool) (run skip : Prop) : Prop := match d with
  | .lit (.bool b) => if want then (b = true → run) ∧ (b = false → skip) else (b = false → run) ∧ (b = true → skip)
  | .lit (.tuple _) => skip
  | _ => False
@[simp] theorem hgd_tt (A B : Prop) : hgd (.lit (.bool true)) true (@bx _ ⟨A⟩) (@bx _ ⟨B⟩) = A := by simp [hgd, bx]
@[simp] theorem hgd_tf (A B : Prop) : hgd (.lit (.bool true)) false (@bx _ ⟨A⟩) (@bx _ ⟨B⟩) = B := by simp [hgd, bx]
@[simp] theorem hgd_ft (A B : Prop) : hgd (.lit (.bool false)) true (@bx _ ⟨A⟩) (@bx _ ⟨B⟩) = B := by simp [hgd, bx]
@[simp] theorem hgd_ff (A B : Prop) : hgd (.lit (.bool false)) false (@bx _ ⟨A⟩) (@bx _ ⟨B⟩) = A := by simp [hgd, bx]
@[simp low] theorem hgd_t (b : Bool) (A B : Prop) : hgd (.lit (.bool b)) true (@bx _ ⟨A⟩) (@bx _ ⟨B⟩) = ((b = true → A) ∧ (b = false → B)) := by simp [hgd, bx]
@[simp low] theorem hgd_f (b : Bool) (A B : Prop) : hgd (.lit (.bool b)) false (@bx _ ⟨A⟩) (@bx _ ⟨B⟩) = ((b = false → A) ∧ (b = true → B)) := by simp [hgd, bx]
@[simp] theorem hgd_u (v : Array Value) (w : Bool) (A B : Prop) : hgd (.lit (.tuple v)) w (@bx _ ⟨A⟩) (@bx _ ⟨B⟩) = B := by simp [hgd, bx]
def hgo (t : Option Tmp) (e : Env) (want : Bool) (run skip : Prop) : Prop := match t with
  | none => skip
  | some t => hgd (e t) want run skip
@[simp] theorem hgo_some (t : Nat) (e : Env) (w : Bool) (A B : Prop) : hgo (some t) e w A B = hgd (e t) w A B := (rfl)
@[simp] theorem hops_guard (all : List Oper) (d : Option Tmp) (op : Op) (ty : TypeId) (pos : String) (af : Array Edge) (r : List Oper) (e : Env) (s : Store) (N : Env → Store → Prop) (j : Nat) (want : Bool) :
    hops P lm (@bx _ ⟨all⟩) (@bx _ ⟨{ dst := d, op := op, type := ty, pos := pos, after := af, guard := some (j, want) } :: r⟩) e s N =
      hgo (dstAt all j) e want (@bx _ ⟨hop P lm op e s (@bx _ ⟨fun v s' => hops P lm (@bx _ ⟨all⟩) (@bx _ ⟨r⟩) (updo e d v) s' N⟩)⟩) (@bx _ ⟨hops P lm (@bx _ ⟨all⟩) (@bx _ ⟨r⟩) (updo e d (.lit undef)) s N⟩) := by
  simp only [hops, guardD, dstAt_eq, hgo, bx]
  cases dstAt all j with
  | none => rfl
  | some t => simp only [hgd]; rfl

/-! ### Operations -/
@[simp ↓] theorem hop_move (x : Operand) (e : Env) (s : Store) (K : D → Store → Prop) : hop P lm (.move x) e s K = K (ev e x) s := (rfl)
@[simp ↓] theorem hop_assign (x : Operand) (e : Env) (s : Store) (K : D → Store → Prop) : hop P lm (.assign x) e s K = K (ev e x) s := (rfl)
@[simp ↓] theorem hop_pick (c a b : Operand) (e : Env) (s : Store) (K : D → Store → Prop) : hop P lm (.pick c a b) e s K = hcond (ev e c) (@bx _ ⟨K (ev e a) s⟩) (@bx _ ⟨K (ev e b) s⟩) := (rfl)
/-- A new block. -/
def hnew (s : Store) (o : HObj) (f : Nat → Store → Prop) : Prop := ∀ b, s b = none → f b (s.set b o)
@[simp] theorem hnew_def (s : Store) (o : HObj) (f : Nat → Store → Prop) : hnew s o f = ∀ b, s b = none → f b (s.set b o) := (rfl)
def hzero (z : Option (List D)) (K : List D → Prop) : Prop := match z with
  | some zs => K zs
  | none => False
@[simp] theorem hzero_some (z : List D) (K : List D → Prop) : hzero (some z) K = K z := (rfl)
@[simp ↓] theorem hop_alloc (t : TypeId) (e : Env) (s : Store) (K : D → Store → Prop) : hop P lm (.alloc t) e s K = wtx P t (@bx _ ⟨fun X => X.zf = true ∧ hzero X.T.zero (@bx _ ⟨fun zs => hnew s (.cells zs) (@bx _ ⟨fun b s' => K (.ptr b 0) s'⟩)⟩)⟩) := by
  simp only [hop, hzero, bx]
  congr 1
@[simp ↓] theorem hop_box (t : TypeId) (x : Operand) (e : Env) (s : Store) (K : D → Store → Prop) : hop P lm (.box t x) e s K = (fitD (ev e x) = true ∧ hnew s (.cells (cellsD (ev e x))) (@bx _ ⟨fun b s' => K (.ptr b 0) s'⟩)) := (rfl)
def partsE (e : Env) : List (Nat × Operand) → List (Nat × D)
  | [] => []
  | (i, x) :: r => (i, ev e x) :: partsE e r
theorem partsE_eq (e : Env) (l : List (Nat × Operand)) : l.map (fun p => (p.1, ev e p.2)) = partsE e l := by
  induction l with
  | nil => rfl
  | cons p r ih => simp [partsE, ih]
@[simp] theorem partsE_nil (e : Env) : partsE e [] = [] := (rfl)
@[simp] theorem partsE_cons (e : Env) (i : Nat) (x : Operand) (r : List (Nat × Operand)) : partsE e ((i, x) :: r) = (i, ev e x) :: partsE e r := (rfl)
def evs (e : Env) : List Operand → List D
  | [] => []
  | x :: r => ev e x :: evs e r
theorem evs_eq (e : Env) (l : List Operand) : l.map (ev e) = evs e l := by
  induction l with
  | nil => rfl
  | cons p r ih => simp [evs, ih]
@[simp] theorem evs_nil (e : Env) : evs e [] = [] := (rfl)
@[simp] theorem evs_cons (e : Env) (x : Operand) (r : List Operand) : evs e (x :: r) = ev e x :: evs e r := (rfl)
@[simp ↓] theorem hop_build (t : TypeId) (parts : List (Nat × Operand)) (e : Env) (s : Store) (K : D → Store → Prop) : hop P lm (.build t ⟨parts⟩) e s K = wtx P t (@bx _ ⟨fun X => (X.zf = true ∧ X.fk = true) ∧ hbuild X.T (partsE e parts) (@bx _ ⟨(K · s)⟩)⟩) := by simp only [hop, partsE_eq, bx]
@[simp ↓] theorem hop_buildSlice (t : TypeId) (n : Nat) (parts : List (Nat × Operand)) (e : Env) (s : Store) (K : D → Store → Prop) : hop P lm (.buildSlice t n ⟨parts⟩) e s K = wtx P t (@bx _ ⟨fun X => wel P X.T (@bx _ ⟨fun E => E.zf = true ∧ hbuildSlice lm E.T n (partsE e parts) s K⟩)⟩) := by simp only [hop, partsE_eq, bx]
@[simp ↓] theorem hop_load (t : TypeId) (a : Operand) (e : Env) (s : Store) (K : D → Store → Prop) : hop P lm (.load t a) e s K = wtx P t (@bx _ ⟨fun X => hload X.T (ev e a) s (@bx _ ⟨(K · s)⟩)⟩) := (rfl)
@[simp ↓] theorem hop_store (t : TypeId) (a x : Operand) (e : Env) (s : Store) (K : D → Store → Prop) : hop P lm (.store t a x) e s K = wtx P t (@bx _ ⟨fun X => hstore X.T (ev e a) (ev e x) s (@bx _ ⟨K (.lit undef)⟩)⟩) := (rfl)
@[simp ↓] theorem hop_nilCheck (x : Operand) (e : Env) (s : Store) (K : D → Store → Prop) : hop P lm (.nilCheck x) e s K = hnil (ev e x) (@bx _ ⟨(K · s)⟩) := (rfl)
@[simp ↓] theorem hop_binOp (op : BinOp) (t u : TypeId) (x y : Operand) (e : Env) (s : Store) (K : D → Store → Prop) : hop P lm (.binOp op t x y u) e s K = wtx P t (@bx _ ⟨fun X => hbin P op t X.T (isC x || isC y) (ev e x) (ev e y) (@bx _ ⟨(K · s)⟩)⟩) := (rfl)
@[simp ↓] theorem hop_unOp (op : UnOp) (t : TypeId) (x : Operand) (e : Env) (s : Store) (K : D → Store → Prop) : hop P lm (.unOp op t x) e s K = hun op (ev e x) (@bx _ ⟨(K · s)⟩) := (rfl)
@[simp ↓] theorem hop_convert (a b : TypeId) (x : Operand) (e : Env) (s : Store) (K : D → Store → Prop) : hop P lm (.convert a b x) e s K = wtx P a (@bx _ ⟨fun S => wtx P b (@bx _ ⟨fun X => (SizedAs (ev e x) 1 ∧ ∀ y, ev e x = .str y → y.size ≤ 9223372036854775807) ∧ hconv P S.T X.T (ev e x) (@bx _ ⟨(K · s)⟩)⟩)⟩) := (rfl)
@[simp ↓] theorem hop_iface (t : TypeId) (x : Operand) (e : Env) (s : Store) (K : D → Store → Prop) : hop P lm (.makeInterface t x) e s K = wtx P t (@bx _ ⟨fun X => hiface X.T t (ev e x) (@bx _ ⟨(K · s)⟩)⟩) := (rfl)
def hfun (fn : Fn) (a b : Option (List Value)) (K : D → Prop) : Prop := match a, b with
  | some f, some c => K (.lit (.func fn f.toArray c.toArray))
  | _, _ => False
@[simp] theorem hfun_some (fn : Fn) (f c : List Value) (K : D → Prop) : hfun fn (some f) (some c) K = K (.lit (.func fn f.toArray c.toArray)) := (rfl)
@[simp ↓] theorem hop_makeFunc (fn : Fn) (a b : List Operand) (e : Env) (s : Store) (K : D → Store → Prop) : hop P lm (.makeFunc fn ⟨a⟩ ⟨b⟩) e s K = hfun fn (litsOf (evs e a)) (litsOf (evs e b)) (@bx _ ⟨(K · s)⟩) := by
  simp only [hop, evs_eq, hfun, bx]; rfl
@[simp ↓] theorem hop_makeMap (t : TypeId) (e : Env) (s : Store) (K : D → Store → Prop) : hop P lm (.makeMap t none) e s K = hnew s (.hmap []) (@bx _ ⟨fun b s' => K (.lit (.map (some b))) s'⟩) := (rfl)
@[simp ↓] theorem hop_makeSlice (t : TypeId) (l c : Operand) (e : Env) (s : Store) (K : D → Store → Prop) : hop P lm (.makeSlice t l c) e s K = wtx P t (@bx _ ⟨fun X => wel P X.T (@bx _ ⟨fun E => E.zf = true ∧ hmake X.T E.T (ev e l) (ev e c) s K⟩)⟩) := (rfl)
def isLitStr (d : D) : Prop := match d with
  | .lit (.string _) => True
  | _ => False
def hsl (P : Program) (k : KK) (d : D) (lo hi : Option D) (K : D → Prop) : Prop := match k with
  | .str => isLitStr d ∧ hslice 0 d lo hi K
  | .slice e => wtx P e fun E => (SizedAs d E.T.size ∧ capOk d = true) ∧ hslice E.T.size d lo hi K
  | _ => False
@[simp ↓] theorem hop_slice (t : TypeId) (x : Operand) (lo hi : Option Operand) (e : Env) (s : Store) (K : D → Store → Prop) : hop P lm (.slice t x lo hi none) e s K = wtx P t (@bx _ ⟨fun X => hsl P X.T.kk (ev e x) (lo.map (ev e)) (hi.map (ev e)) (@bx _ ⟨(K · s)⟩)⟩) := (rfl)
def hsl3 (P : Program) (k : KK) (d : D) (lo : Option D) (hi mx : D) (K : D → Prop) : Prop := match k with
  | .slice e => wtx P e fun E => hslice3 E.T.size d lo hi mx K
  | _ => False
@[simp ↓] theorem hop_slice3 (t : TypeId) (x : Operand) (lo : Option Operand) (hi mx : Operand) (e : Env) (s : Store) (K : D → Store → Prop) : hop P lm (.slice t x lo (some hi) (some mx)) e s K = wtx P t (@bx _ ⟨fun X => hsl3 P X.T.kk (ev e x) (lo.map (ev e)) (ev e hi) (ev e mx) (@bx _ ⟨(K · s)⟩)⟩) := (rfl)
@[simp] theorem hsl3_slice (t : TypeId) (d : D) (lo : Option D) (hi mx : D) (K : D → Prop) : hsl3 P (.slice t) d lo hi mx K = wtx P t (@bx _ ⟨fun E => hslice3 E.T.size d lo hi mx K⟩) := (rfl)
@[simp] theorem hslice3_lit (E b o n c : Nat) (k1 k2 k3 : IntKind) (l h m : Int) (K : D → Prop) : hslice3 E (.lit (.slice (some ⟨b, o, none⟩) n c)) (some (.lit (.int k1 l))) (.lit (.int k2 h)) (.lit (.int k3 m)) K = ((0 ≤ l ∧ l ≤ h ∧ h ≤ m ∧ m ≤ (c : Int)) ∧ K (.lit (.slice (some (if m.toNat = l.toNat then ⟨b, o, none⟩ else ⟨b, o + l.toNat * E, none⟩)) (h.toNat - l.toNat) (m.toNat - l.toNat)))) := (rfl)
@[simp] theorem hsl_str (d : D) (lo hi : Option D) (K : D → Prop) : hsl P .str d lo hi K = (isLitStr d ∧ hslice 0 d lo hi K) := (rfl)
@[simp] theorem hsl_slice (t : TypeId) (d : D) (lo hi : Option D) (K : D → Prop) : hsl P (.slice t) d lo hi K = wtx P t (@bx _ ⟨fun E => (SizedAs d E.T.size ∧ capOk d = true) ∧ hslice E.T.size d lo hi K⟩) := (rfl)
@[simp] theorem isLitStr_str (b : ByteArray) : isLitStr (.lit (.string b)) = True := (rfl)
@[simp ↓] theorem hop_fieldAddr (t : TypeId) (x : Operand) (f : Nat) (e : Env) (s : Store) (K : D → Store → Prop) : hop P lm (.fieldAddr t x f) e s K = wtx P t (@bx _ ⟨fun X => hfieldAddr X.T (ev e x) f (@bx _ ⟨(K · s)⟩)⟩) := (rfl)
@[simp ↓] theorem hop_field (t : TypeId) (x : Operand) (f : Nat) (e : Env) (s : Store) (K : D → Store → Prop) : hop P lm (.field t x f) e s K = wtx P t (@bx _ ⟨fun X => hfield X.T (ev e x) f (@bx _ ⟨(K · s)⟩)⟩) := (rfl)
@[simp ↓] theorem hop_indexAddr (t : TypeId) (x i : Operand) (e : Env) (s : Store) (K : D → Store → Prop) : hop P lm (.indexAddr t x i) e s K = wtx P t (@bx _ ⟨fun X => wel P X.T (@bx _ ⟨fun E => SizedAs (ev e x) E.T.size ∧ hindexAddr E.T.size (ev e x) (ev e i) (@bx _ ⟨(K · s)⟩)⟩)⟩) := (rfl)
@[simp ↓] theorem hop_index (t : TypeId) (x i : Operand) (e : Env) (s : Store) (K : D → Store → Prop) : hop P lm (.index t x i) e s K = wtx P t (@bx _ ⟨fun X => X.T.kk.isStr = true ∧ hindex (ev e x) (ev e i) (@bx _ ⟨(K · s)⟩)⟩) := (rfl)
@[simp ↓] theorem hop_lookup (t : TypeId) (x i : Operand) (ok : Bool) (e : Env) (s : Store) (K : D → Store → Prop) : hop P lm (.lookup t x i ok) e s K = wtx P t (@bx _ ⟨fun X => wtx P (mapElem X.T.kk) (@bx _ ⟨fun E => E.zo = true ∧ hlookup P X.T E.T (ev e x) (ev e i) ok s (@bx _ ⟨(K · s)⟩)⟩)⟩) := (rfl)
@[simp ↓] theorem hop_mapUpdate (t : TypeId) (m k v : Operand) (e : Env) (s : Store) (K : D → Store → Prop) : hop P lm (.mapUpdate t m k v) e s K = wtx P t (@bx _ ⟨fun X => hmapUpdate P X.T (ev e m) (ev e k) (ev e v) s (@bx _ ⟨K (.lit undef)⟩)⟩) := (rfl)
@[simp ↓] theorem hop_extract (x : Operand) (i : Nat) (e : Env) (s : Store) (K : D → Store → Prop) : hop P lm (.extract x i) e s K = hextract (ev e x) i (@bx _ ⟨(K · s)⟩) := (rfl)
@[simp ↓] theorem hop_builtin (b : Builtin) (args : List Operand) (ts : Array TypeId) (e : Env) (s : Store) (K : D → Store → Prop) : hop P lm (.call { callee := .builtin b, args := ⟨args⟩, argTypes := ts }) e s K = hbuiltin P lm b ts (evs e args) s K := by simp only [hop, evs_eq, bx]
/-- A call of what a word holds. -/
def hcall (P : Program) (f : D) (args : List D) (s : Store) (K : D → Store → Prop) : Prop := match f with
  | .lit (.func (.func g) first caps) =>
    if entersB P g then HCalls P g (first.toList.map .lit ++ args ++ caps.toList.map .lit) s K
    else HExt P g (first.toList.map .lit ++ args ++ caps.toList.map .lit) s K
  | _ => False
@[simp] theorem hcall_func (g : FuncId) (first caps : List Value) (args : List D) (s : Store) (K : D → Store → Prop) : hcall P (.lit (.func (.func g) ⟨first⟩ ⟨caps⟩)) args s K = if entersB P g = true then HCalls P g (first.map .lit ++ args ++ caps.map .lit) s K else HExt P g (first.map .lit ++ args ++ caps.map .lit) s K := (rfl)
@[simp ↓] theorem hop_call (f : Operand) (args : List Operand) (ts : Array TypeId) (e : Env) (s : Store) (K : D → Store → Prop) : hop P lm (.call { callee := .value f, args := ⟨args⟩, argTypes := ts }) e s K = hcall P (ev e f) (evs e args) s K := by
  simp only [hop, evs_eq]
  unfold hcall
  split <;> simp_all
end Go.HL
