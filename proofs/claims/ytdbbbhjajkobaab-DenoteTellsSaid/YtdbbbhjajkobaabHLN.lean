/- HL, part N: what each operation does, as rewriting. -/
import Derived.Test.YtdbbbhjajkobaabHLM
import Derived.IntWalk
set_option linter.unusedVariables false
set_option linter.unusedSimpArgs false
namespace Go.HL
open Go.RowKit
variable {P : Program} {lm : Bool}

attribute [simp] KK.agg KK.isPtr KK.isSlice KK.isIface KK.isBool KK.isStr KK.isU8 KK.bytes KK.mapKey mapElem isC isShift fitD oneD cellsD
section
@[simp] theorem one_bool (b : Bool) : (Value.bool b).oneCell' = true := (rfl)
@[simp] theorem one_int (k : IntKind) (i : Int) : (Value.int k i).oneCell' = true := (rfl)
@[simp] theorem one_str (s : ByteArray) : (Value.string s).oneCell' = true := (rfl)
@[simp] theorem one_slice (a : Option Addr) (n c : Nat) : (Value.slice a n c).oneCell' = true := (rfl)
@[simp] theorem one_ptr (a : Option Addr) : (Value.pointer a).oneCell' = true := (rfl)
@[simp] theorem one_map (a : Option Nat) : (Value.map a).oneCell' = true := (rfl)
@[simp] theorem one_iface (t : TypeId) (v : Value) : (Value.iface t v).oneCell' = true := (rfl)
@[simp] theorem one_nilIface : Value.nilIface.oneCell' = true := (rfl)
@[simp] theorem one_nilFunc : Value.nilFunc.oneCell' = true := (rfl)
@[simp] theorem one_func (f : Fn) (a b : Array Value) : (Value.func f a b).oneCell' = true := (rfl)
end
@[simp] theorem SizedAs_list (es : List (List D)) (tok : Tok) (n : Nat) : SizedAs (.list es tok) n = ∀ e ∈ es, e.length = n := (rfl)
@[simp] theorem SizedAs_lit (v : Value) (n : Nat) : SizedAs (.lit v) n = True := (rfl)
@[simp] theorem capOk_list (es : List (List D)) (tok : Tok) : capOk (.list es tok) = true := (rfl)
@[simp] theorem capOk_slice (a : Addr) (n c : Nat) : capOk (.lit (.slice (some a) n c)) = decide (n ≤ c) := (rfl)
theorem d_lit_inj (a b : Value) : (D.lit a = D.lit b) = (a = b) := by simp

theorem wtx_of {t : TypeId} {X : TX} (h : tx P t = some X) (g : TX → Prop) : wtx P t g = g X := by unfold wtx; rw [h]
/-! ### Stores -/
@[simp] theorem set_at (σ : Store) (b : Nat) (o : HObj) : (σ.set b o) b = some o := by simp [Store.set]
@[simp] theorem set_off (σ : Store) (b x : Nat) (o : HObj) (h : x ≠ b) : (σ.set b o) x = σ x := by simp [Store.set, h]
@[simp] theorem set_off' (σ : Store) (b x : Nat) (o : HObj) (h : b ≠ x) : (σ.set b o) x = σ x := by simp [Store.set, Ne.symm h]
@[simp] theorem set_old (σ : Store) (b x : Nat) (o : HObj) (h : σ b = none) (h2 : σ x ≠ none) : (σ.set b o) x = σ x := by
  have : x ≠ b := fun e => by subst e; exact h2 h
  simp [Store.set, this]
@[simp] theorem set_none (σ : Store) (b x : Nat) (o : HObj) : ((σ.set b o) x = none) = (x ≠ b ∧ σ x = none) := by
  unfold Store.set; by_cases h : x = b <;> simp [h]
@[simp] theorem set_twice (σ : Store) (b : Nat) (o o' : HObj) : (σ.set b o).set b o' = σ.set b o' := by funext x; simp only [Store.set]; split <;> rfl

/-! ### Types -/
@[simp] theorem wel_slice (e s b : Nat) (z : Option (List D)) (f : List (Nat × Nat × Bool)) (g : TX → Prop) : wel P ⟨.slice e, s, b, z, f⟩ g = wtx P e g := (rfl)
@[simp] theorem valD_agg (ds : List D) : valD true ds = .agg ds := (rfl)
@[simp] theorem valD_one (d : D) (ds : List D) : valD false (d :: ds) = d := (rfl)

/-! ### Memory -/
def loadC (T : TI) (o : Nat) (x : Option HObj) (K : D → Prop) : Prop := match x with
  | some (.cells ds) => (o + T.size ≤ ds.length ∧ (T.kk.agg = true ∨ T.size = 1)) ∧ K (valD T.kk.agg ((ds.drop o).take T.size))
  | _ => False
@[simp] theorem loadC_cells (T : TI) (o : Nat) (ds : List D) (K : D → Prop) : loadC T o (some (.cells ds)) K = ((o + T.size ≤ ds.length ∧ (T.kk.agg = true ∨ T.size = 1)) ∧ K (valD T.kk.agg ((ds.drop o).take T.size))) := (rfl)
@[simp] theorem hload_ptr (T : TI) (b o : Nat) (σ : Store) (K : D → Prop) : hload T (.lit (.pointer (some ⟨b, o, none⟩))) σ K = loadC T o (σ b) K := (rfl)
@[simp] theorem hload_iptr (T : TI) (ds : List D) (σ : Store) (K : D → Prop) : hload T (.iptr ds) σ K = ((T.size ≤ ds.length ∧ (T.kk.agg = true ∨ T.size = 1)) ∧ K (valD T.kk.agg (ds.take T.size))) := (rfl)
def storeC (T : TI) (b o : Nat) (x : D) (σ : Store) (c : Option HObj) (K : Store → Prop) : Prop := match c with
  | some (.cells ds) => (o + T.size ≤ ds.length ∧ fitD x = true ∧ (cellsD x).length = T.size) ∧ K (σ.set b (.cells (spl ds o (cellsD x))))
  | _ => False
@[simp] theorem storeC_cells (T : TI) (b o : Nat) (x : D) (σ : Store) (ds : List D) (K : Store → Prop) : storeC T b o x σ (some (.cells ds)) K = ((o + T.size ≤ ds.length ∧ fitD x = true ∧ (cellsD x).length = T.size) ∧ K (σ.set b (.cells (spl ds o (cellsD x))))) := (rfl)
@[simp] theorem hstore_ptr (T : TI) (b o : Nat) (x : D) (σ : Store) (K : Store → Prop) : hstore T (.lit (.pointer (some ⟨b, o, none⟩))) x σ K = storeC T b o x σ (σ b) K := (rfl)
@[simp] theorem spl_all (ds cs : List D) (h : ds.length = cs.length) : spl ds 0 cs = cs := by simp [spl, ← h]
@[simp] theorem spl_cons0 (d c : D) (ds cs : List D) : spl (d :: ds) 0 (c :: cs) = c :: spl ds 0 cs := by simp [spl, Nat.succ_add]
@[simp] theorem spl_nil (ds : List D) : spl ds 0 [] = ds := by simp [spl]
@[simp] theorem spl_succ (d : D) (ds cs : List D) (o : Nat) : spl (d :: ds) (o + 1) cs = d :: spl ds o cs := by simp [spl, Nat.succ_add]

/-! ### Arithmetic and comparison -/
@[simp] theorem hbin_int (op : BinOp) (t : TypeId) (T : TI) (c : Bool) (k k' : IntKind) (x y : Int) (K : D → Prop) : hbin P op t T c (.lit (.int k x)) (.lit (.int k' y)) K = if isShift op then shBin op k x y K else k = k' ∧ intBin op k x y K := (rfl)
@[simp] theorem hbin_str (op : BinOp) (t : TypeId) (T : TI) (c : Bool) (x y : ByteArray) (K : D → Prop) : hbin P op t T c (.lit (.string x)) (.lit (.string y)) K = strBin op x y K := (rfl)
@[simp] theorem hbin_bool (op : BinOp) (t : TypeId) (T : TI) (c : Bool) (x y : Bool) (K : D → Prop) : hbin P op t T c (.lit (.bool x)) (.lit (.bool y)) K = (T.kk.isBool = true ∧ eqBin op (decide (x = y)) K) := (rfl)
@[simp] theorem hbin_nn (op : BinOp) (t : TypeId) (T : TI) (c : Bool) (K : D → Prop) : hbin P op t T c (.lit .nilIface) (.lit .nilIface) K = ((T.kk.isIface = true ∧ c = true) ∧ eqBin op true K) := (rfl)
@[simp] theorem hbin_in (op : BinOp) (t : TypeId) (T : TI) (c : Bool) (u : TypeId) (v : Value) (K : D → Prop) : hbin P op t T c (.lit (.iface u v)) (.lit .nilIface) K = (T.kk.isIface = true ∧ eqBin op false K) := (rfl)
@[simp] theorem hbin_ni (op : BinOp) (t : TypeId) (T : TI) (c : Bool) (u : TypeId) (v : Value) (K : D → Prop) : hbin P op t T c (.lit .nilIface) (.lit (.iface u v)) K = (T.kk.isIface = true ∧ eqBin op false K) := (rfl)
@[simp] theorem hbin_ii (op : BinOp) (t : TypeId) (T : TI) (c : Bool) (t1 t2 : TypeId) (k k' : IntKind) (x y : Int) (K : D → Prop) : hbin P op t T c (.lit (.iface t1 (.int k x))) (.lit (.iface t2 (.int k' y))) K = ((T.kk.isIface = true ∧ t1 = t2 ∧ k = k' ∧ kindOf P t1 = .int k ∧ ((P.info? t1).map (·.comparable)) = some true) ∧ eqBin op (decide (x = y)) K) := (rfl)
@[simp] theorem hbin_pn (op : BinOp) (t : TypeId) (T : TI) (c : Bool) (K : D → Prop) : hbin P op t T c (.lit (.pointer none)) (.lit (.pointer none)) K = (T.kk.isPtr = true ∧ eqBin op true K) := (rfl)
@[simp] theorem hbin_ps (op : BinOp) (t : TypeId) (T : TI) (c : Bool) (a : Addr) (K : D → Prop) : hbin P op t T c (.lit (.pointer (some a))) (.lit (.pointer none)) K = (T.kk.isPtr = true ∧ eqBin op false K) := (rfl)
@[simp] theorem hbin_pi (op : BinOp) (t : TypeId) (T : TI) (c : Bool) (ds : List D) (K : D → Prop) : hbin P op t T c (.iptr ds) (.lit (.pointer none)) K = (T.kk.isPtr = true ∧ eqBin op false K) := (rfl)
@[simp] theorem hbin_ln (op : BinOp) (t : TypeId) (T : TI) (c : Bool) (es : List (List D)) (tok : Tok) (K : D → Prop) : hbin P op t T c (.list es tok) (.list [] .nil) K = (T.kk.isSlice = true ∧ ∀ r, (r = true → es = []) → (tok = .nil → r = true) → eqBin op r K) := (rfl)
def aggC (op : BinOp) (r : Option Bool) (K : D → Prop) : Prop := match r with
  | some r => eqBin op r K
  | none => False
@[simp] theorem aggC_some (op : BinOp) (r : Bool) (K : D → Prop) : aggC op (some r) K = eqBin op r K := (rfl)
@[simp] theorem hbin_agg (op : BinOp) (t : TypeId) (T : TI) (c : Bool) (xs ys : List D) (K : D → Prop) : hbin P op t T c (.agg xs) (.agg ys) K = aggC op ((eqKinds P t).bind (@bx _ ⟨fun ks => eqCells ks xs ys⟩)) K := (rfl)
attribute [simp] eqCells
@[simp ↓] theorem eqBin_eql (r : Bool) (K : D → Prop) : eqBin .eql r K = K (.bool r) := (rfl)
@[simp ↓] theorem eqBin_neq (r : Bool) (K : D → Prop) : eqBin .neq r K = K (.bool (!r)) := (rfl)
attribute [simp ↓] intBin strBin shBin
@[simp] theorem hun_not (b : Bool) (K : D → Prop) : hun .not (.lit (.bool b)) K = K (.bool (!b)) := (rfl)
@[simp] theorem hun_neg (k : IntKind) (n : Int) (K : D → Prop) : hun .neg (.lit (.int k n)) K = K (.int k (k.wrap (0 - n))) := (rfl)

/-! ### Strings, slices, parts -/
@[simp] theorem hlen_list (T : TI) (es : List (List D)) (tok : Tok) (σ : Store) (K : D → Prop) : hlen T (.list es tok) σ K = (T.kk.isSlice = true ∧ K (.int .i64 es.length)) := (rfl)
@[simp] theorem hlen_slice (T : TI) (a : Option Addr) (n c : Nat) (σ : Store) (K : D → Prop) : hlen T (.lit (.slice a n c)) σ K = (T.kk.isSlice = true ∧ K (.int .i64 n)) := (rfl)
@[simp] theorem hlen_str (T : TI) (s : ByteArray) (σ : Store) (K : D → Prop) : hlen T (.lit (.string s)) σ K = (T.kk.isStr = true ∧ K (.int .i64 s.size)) := (rfl)
@[simp] theorem hindex_str (s : ByteArray) (k : IntKind) (i : Int) (K : D → Prop) : hindex (.lit (.string s)) (.lit (.int k i)) K = ((0 ≤ i ∧ i < (s.size : Int)) ∧ K (.int .u8 ((s.get! i.toNat).toNat : Int))) := (rfl)
theorem hia_map {α : Type} (E : Nat) (l : List α) (f : α → List D) (tok : Tok) (k : IntKind) (i : Int) (K : D → Prop) : hindexAddr E (.list (l.map f) tok) (.lit (.int k i)) K = ((0 ≤ i ∧ i < (l.length : Int)) ∧ ∀ x, l[i.toNat]? = some x → K (.iptr (f x))) := by
  simp only [hindexAddr, List.length_map, eq_iff_iff]
  refine and_congr_right fun ⟨h0, h1⟩ => ?_
  have : i.toNat < l.length := by omega
  simp [List.getD_eq_getElem?_getD, this]
@[simp] theorem hia_list (E : Nat) (es : List (List D)) (tok : Tok) (k : IntKind) (i : Int) (K : D → Prop) : hindexAddr E (.list es tok) (.lit (.int k i)) K = ((0 ≤ i ∧ i < (es.length : Int)) ∧ K (.iptr (es.getD i.toNat []))) := (rfl)
attribute [simp high] hia_map
@[simp] theorem hia_slice (E : Nat) (b o n c : Nat) (k : IntKind) (i : Int) (K : D → Prop) : hindexAddr E (.lit (.slice (some ⟨b, o, none⟩) n c)) (.lit (.int k i)) K = ((0 ≤ i ∧ i < (n : Int)) ∧ K (.ptr b (o + i.toNat * E))) := (rfl)
def fldC (f : Option (Nat × Nat × Bool)) (k : Nat → Nat → Bool → Prop) : Prop := match f with
  | some (o, s, a) => k o s a
  | none => False
@[simp] theorem fldC_some (o s : Nat) (a : Bool) (k : Nat → Nat → Bool → Prop) : fldC (some (o, s, a)) k = k o s a := (rfl)
@[simp] theorem hfa_ptr (T : TI) (b o f : Nat) (K : D → Prop) : hfieldAddr T (.lit (.pointer (some ⟨b, o, none⟩))) f K = fldC T.flds[f]? (@bx _ ⟨fun off sz _ => sz ≠ 0 ∧ K (.ptr b (o + off))⟩) := by
  simp only [hfieldAddr, fldC, bx]
  rcases T.flds[f]? with _ | ⟨a, b, c⟩ <;> rfl
@[simp] theorem hfa_iptr (T : TI) (ds : List D) (f : Nat) (K : D → Prop) : hfieldAddr T (.iptr ds) f K = fldC T.flds[f]? (@bx _ ⟨fun off sz _ => sz ≠ 0 ∧ off ≤ ds.length ∧ K (.iptr (ds.drop off))⟩) := by
  simp only [hfieldAddr, fldC, bx]
  rcases T.flds[f]? with _ | ⟨a, b, c⟩ <;> rfl
@[simp] theorem hf_agg (T : TI) (ds : List D) (f : Nat) (K : D → Prop) : hfield T (.agg ds) f K = fldC T.flds[f]? (@bx _ ⟨fun off sz ag => (sz ≠ 0 ∧ off + sz ≤ ds.length ∧ (ag = true ∨ sz = 1)) ∧ K (valD ag ((ds.drop off).take sz))⟩) := by
  simp only [hfield, fldC, bx]
  rcases T.flds[f]? with _ | ⟨a, b, c⟩ <;> rfl
def optC (x : Option D) (K : D → Prop) : Prop := match x with
  | some x => K x
  | none => False
@[simp] theorem optC_some (x : D) (K : D → Prop) : optC (some x) K = K x := (rfl)
@[simp] theorem hx_tup (ds : List D) (i : Nat) (K : D → Prop) : hextract (.tup ds) i K = optC ds[i]? K := (rfl)
@[simp] theorem hnil_iptr (ds : List D) (K : D → Prop) : hnil (.iptr ds) K = K (.iptr ds) := (rfl)
@[simp] theorem hnil_ptr (a : Addr) (K : D → Prop) : hnil (.lit (.pointer (some a))) K = K (.lit (.pointer (some a))) := (rfl)
@[simp] theorem hnil_func (f : FuncId) (x y : Array Value) (K : D → Prop) : hnil (.lit (.func (.func f) x y)) K = K (.lit (.func (.func f) x y)) := (rfl)
@[simp] theorem hiface_lit (T : TI) (t : TypeId) (v : Value) (K : D → Prop) : hiface T t (.lit v) K = (T.kk.isIface = false ∧ K (.lit (.iface t v))) := (rfl)
def intC (k : KK) (n : Int) (K : D → Prop) : Prop := match k with
  | .int k => K (.int k (k.wrap n))
  | _ => False
@[simp] theorem intC_int (k : IntKind) (n : Int) (K : D → Prop) : intC (.int k) n K = K (.int k (k.wrap n)) := (rfl)
@[simp] theorem hconv_int (S T : TI) (k : IntKind) (n : Int) (K : D → Prop) : hconv P S T (.lit (.int k n)) K = intC T.kk n K := (rfl)
@[simp] theorem hconv_str (S T : TI) (s : ByteArray) (K : D → Prop) : hconv P S T (.lit (.string s)) K = (S.kk.isStr = true ∧ (T.kk.isStr = true → K (.str s)) ∧ (T.kk.bytes P = true → K (.list (bytesD s) .ro)) ∧ (T.kk.isStr = true ∨ T.kk.bytes P = true)) := (rfl)
@[simp] theorem hconv_list (S T : TI) (es : List (List D)) (tok : Tok) (K : D → Prop) : hconv P S T (.list es tok) K = ((S.kk.bytes P = true ∧ T.kk.isStr = true) ∧ ∃ s, es = bytesD s ∧ K (.str s)) := (rfl)
def buildC (ds : Option (List D)) (K : D → Prop) : Prop := match ds with
  | some ds => K (.agg ds)
  | none => False
@[simp] theorem buildC_some (ds : List D) (K : D → Prop) : buildC (some ds) K = K (.agg ds) := (rfl)
def placeF (fl : List (Nat × Nat × Bool)) (i : Nat) : Option (Nat × Nat) := (fl[i]?).map fun (f : Nat × Nat × Bool) => (f.1, f.2.1)
@[simp] theorem hbuild_struct (s b : Nat) (z : List D) (fl : List (Nat × Nat × Bool)) (parts : List (Nat × D)) (K : D → Prop) : hbuild ⟨.struct, s, b, some z, fl⟩ parts K = buildC (fillD (placeF fl) z parts) K := (rfl)
@[simp] theorem fillD_nil (pl : Nat → Option (Nat × Nat)) (ds : List D) : fillD pl ds [] = some ds := (rfl)
def fillC (pl : Nat → Option (Nat × Nat)) (p : Option (Nat × Nat)) (ds : List D) (d : D) (rest : List (Nat × D)) : Option (List D) := match p with
  | none => none
  | some (off, size) => if fitD d = true ∧ (cellsD d).length = size ∧ off + size ≤ ds.length then fillD pl (spl ds off (cellsD d)) rest else none
@[simp] theorem fillD_cons (pl : Nat → Option (Nat × Nat)) (ds : List D) (i : Nat) (d : D) (rest : List (Nat × D)) : fillD pl ds ((i, d) :: rest) = fillC pl (pl i) ds d rest := (rfl)
@[simp] theorem fillC_some (pl : Nat → Option (Nat × Nat)) (off size : Nat) (ds : List D) (d : D) (rest : List (Nat × D)) : fillC pl (some (off, size)) ds d rest = if fitD d = true ∧ (cellsD d).length = size ∧ off + size ≤ ds.length then fillD pl (spl ds off (cellsD d)) rest else none := (rfl)
@[simp] theorem placeF_eq (fl : List (Nat × Nat × Bool)) (i : Nat) : placeF fl i = (fl[i]?).map (@bx _ ⟨fun f => (f.1, f.2.1)⟩) := (rfl)

/-! ### Strings cut, slices cut -/
attribute [simp] bnd
def cutC (l h : Option Int) (K : Int → Int → Prop) : Prop := match l, h with
  | some l, some h => K l h
  | _, _ => False
@[simp] theorem cutC_some (l h : Int) (K : Int → Int → Prop) : cutC (some l) (some h) K = K l h := (rfl)
@[simp] theorem hslice_str (E : Nat) (s : ByteArray) (lo hi : Option D) (K : D → Prop) : hslice E (.lit (.string s)) lo hi K = cutC (bnd lo 0) (bnd hi s.size) (@bx _ ⟨fun l h => (0 ≤ l ∧ l ≤ h ∧ h ≤ (s.size : Int)) ∧ K (.str (s.extract l.toNat h.toNat))⟩) := (rfl)
@[simp] theorem hslice_list (E : Nat) (es : List (List D)) (tok : Tok) (lo hi : Option D) (K : D → Prop) : hslice E (.list es tok) lo hi K = cutC (bnd lo 0) (bnd hi es.length) (@bx _ ⟨fun l h => (0 ≤ l ∧ l ≤ h ∧ h ≤ (es.length : Int)) ∧ K (.list ((es.take h.toNat).drop l.toNat) .ro)⟩) := (rfl)

@[simp] theorem hslice_lit (E b o n c : Nat) (lo hi : Option D) (K : D → Prop) : hslice E (.lit (.slice (some ⟨b, o, none⟩) n c)) lo hi K = cutC (bnd lo 0) (bnd hi n) (@bx _ ⟨fun l h => (0 ≤ l ∧ l ≤ h ∧ h ≤ (c : Int)) ∧ K (.lit (.slice (some (if c = l.toNat then ⟨b, o, none⟩ else ⟨b, o + l.toNat * E, none⟩)) (h.toNat - l.toNat) (c - l.toNat)))⟩) := (rfl)

/-! ### Builtins -/
def one1 (l : List D) (K : D → Prop) : Prop := match l with
  | [d] => K d
  | _ => False
def two2 (l : List D) (K : D → D → Prop) : Prop := match l with
  | [a, b] => K a b
  | _ => False
@[simp] theorem one1_eq (d : D) (K : D → Prop) : one1 [d] K = K d := (rfl)
@[simp] theorem two2_eq (a b : D) (K : D → D → Prop) : two2 [a, b] K = K a b := (rfl)
@[simp ↓] theorem hb_len (t : TypeId) (l : List D) (σ : Store) (K : D → Store → Prop) : hbuiltin P lm .len #[t] l σ K = one1 l (@bx _ ⟨fun d => wtx P t (@bx _ ⟨fun X => hlen X.T d σ (@bx _ ⟨(K · σ)⟩)⟩)⟩) := by
  unfold hbuiltin one1 bx
  match l with
  | [] => rfl
  | [d] => rfl
  | _ :: _ :: _ => rfl
@[simp ↓] theorem hb_append (t u : TypeId) (l : List D) (σ : Store) (K : D → Store → Prop) : hbuiltin P lm .append #[t, u] l σ K = two2 l (@bx _ ⟨fun a x => wtx P t (@bx _ ⟨fun X => wel P X.T (@bx _ ⟨fun E => (srcT P u x ∧ E.zf = true ∧ E.zs = true ∧ SizedAs a E.T.size ∧ SizedAs x E.T.size ∧ (∀ s, x = .str s → E.T.size = 1)) ∧ happend lm E.T a x σ K⟩)⟩)⟩) := by
  unfold hbuiltin two2 bx
  match l with
  | [] => rfl
  | [d] => rfl
  | [a, b] => rfl
  | _ :: _ :: _ :: _ => rfl
@[simp ↓] theorem hb_copy (t u : TypeId) (l : List D) (σ : Store) (K : D → Store → Prop) : hbuiltin P lm .copy #[t, u] l σ K = two2 l (@bx _ ⟨fun d x => wtx P t (@bx _ ⟨fun X => wel P X.T (@bx _ ⟨fun E => (SizedAs x E.T.size ∧ (∀ s, x = .str s → E.T.size = 1) ∧ 0 < E.T.size) ∧ hcopy E.T d x σ K⟩)⟩)⟩) := by
  unfold hbuiltin two2 bx
  match l with
  | [] => rfl
  | [d] => rfl
  | [a, b] => rfl
  | _ :: _ :: _ :: _ => rfl
@[simp ↓] theorem hb_clear (t : TypeId) (l : List D) (σ : Store) (K : D → Store → Prop) : hbuiltin P lm .clear #[t] l σ K = one1 l (@bx _ ⟨fun d => wtx P t (@bx _ ⟨fun X => wel P X.T (@bx _ ⟨fun E => E.zf = true ∧ hclear E.T d σ K⟩)⟩)⟩) := by
  unfold hbuiltin one1 bx
  match l with
  | [] => rfl
  | [d] => rfl
  | _ :: _ :: _ => rfl
@[simp] theorem hb_min (ts : Array TypeId) (k k' : IntKind) (a b : Int) (σ : Store) (K : D → Store → Prop) : hbuiltin P lm .min ts [.lit (.int k a), .lit (.int k' b)] σ K = K (.int k (if b < a then b else a)) σ := (rfl)
@[simp] theorem hb_max (ts : Array TypeId) (k k' : IntKind) (a b : Int) (σ : Store) (K : D → Store → Prop) : hbuiltin P lm .max ts [.lit (.int k a), .lit (.int k' b)] σ K = K (.int k (if b > a then b else a)) σ := (rfl)
@[simp ↓] theorem srcT_eq (u : TypeId) (x : D) : srcT P u x = wtx P u (@bx _ ⟨fun X => (X.T.kk.isSlice = true ∨ X.T.kk.isStr = true)⟩) := (rfl)

/-! ### Appending, clearing, copying -/
def srcC (x : Option (List (List D))) (K : List (List D) → Prop) : Prop := match x with
  | some xs => K xs
  | none => False
@[simp] theorem srcC_some (xs : List (List D)) (K : List (List D) → Prop) : srcC (some xs) K = K xs := (rfl)
@[simp] theorem srcE_list (k : Nat) (es : List (List D)) (tok : Tok) (σ : Store) : srcE k (.list es tok) σ = some es := (rfl)
@[simp] theorem srcE_str (k : Nat) (s : ByteArray) (σ : Store) : srcE k (.lit (.string s)) σ = some (bytesD s) := (rfl)
def srcB (k o m : Nat) (x : Option HObj) : Option (List (List D)) := match x with
  | some (.cells ds) => if o + m * k ≤ ds.length then some (chunk m k (ds.drop o)) else none
  | _ => none
@[simp] theorem srcE_lit (k b o m c : Nat) (σ : Store) : srcE k (.lit (.slice (some ⟨b, o, none⟩) m c)) σ = srcB k o m (σ b) := (rfl)
@[simp] theorem srcB_cells (k o m : Nat) (ds : List D) : srcB k o m (some (.cells ds)) = if o + m * k ≤ ds.length then some (chunk m k (ds.drop o)) else none := (rfl)
def appA (lm : Bool) (E : TI) (xs : List (List D)) (a : D) (σ : Store) (K : D → Store → Prop) : Prop :=
  match a with
    | .list es tok => ((es.length + xs.length) * E.bytes ≤ 140737488355328 ∧ es.length + xs.length ≤ 9223372036854775807) ∧
      (if lm then tokList tok = true ∧ (xs = [] → K (.list es tok) σ) ∧ (xs ≠ [] → ∀ z, E.zero = some z → ∀ b c, σ b = none → es.length + xs.length ≤ c → c ≤ 9223372036854775807 →
          K (.lit (.slice (some ⟨b, 0, none⟩) (es.length + xs.length) c)) (σ.set b (.cells (es.flatten ++ xs.flatten ++ zrep (c - (es.length + xs.length)) z))))
      else match tok with
        | .nil => (xs = [] → K (.list es .nil) σ) ∧ (xs ≠ [] → ∀ b c, σ b = none → es.length + xs.length ≤ c → K (.list (es ++ xs) (.own b c E.size)) (σ.set b (.spare (es.length + xs.length) c E.size)))
        | .full => (xs = [] → K (.list es .full) σ) ∧ (xs ≠ [] → ∀ b c, σ b = none → es.length + xs.length ≤ c → K (.list (es ++ xs) (.own b c E.size)) (σ.set b (.spare (es.length + xs.length) c E.size)))
        | .own b c k => (σ b = some (.spare es.length c k) ∧ k = E.size) ∧
            (es.length + xs.length ≤ c → K (.list (es ++ xs) (.own b c k)) (σ.set b (.spare (es.length + xs.length) c k))) ∧
            (c < es.length + xs.length → ∀ b' c', σ b' = none → es.length + xs.length ≤ c' → K (.list (es ++ xs) (.own b' c' k)) (σ.set b' (.spare (es.length + xs.length) c' k)))
        | .ro => False)
    | .lit (.slice (some ⟨b, o, none⟩) n c) => match σ b with
      | some (.cells ds) => (n ≤ c ∧ o + c * E.size ≤ ds.length ∧ (n + xs.length) * E.bytes ≤ 140737488355328 ∧ n + xs.length ≤ 9223372036854775807) ∧
          (n + xs.length ≤ c → K (.lit (.slice (some ⟨b, o, none⟩) (n + xs.length) c)) (σ.set b (.cells (spl ds (o + n * E.size) xs.flatten)))) ∧
          (c < n + xs.length → ∀ z, E.zero = some z → ∀ b' c', σ b' = none → n + xs.length ≤ c' → c' ≤ 9223372036854775807 →
            K (.lit (.slice (some ⟨b', 0, none⟩) (n + xs.length) c')) (σ.set b' (.cells ((ds.drop o).take (n * E.size) ++ xs.flatten ++ zrep (c' - (n + xs.length)) z))))
      | _ => False
    | _ => False
@[simp ↓] theorem happend_eq (E : TI) (a x : D) (σ : Store) (K : D → Store → Prop) : happend lm E a x σ K = srcC (srcE E.size x σ) (@bx _ ⟨fun xs => 0 < E.size ∧ appA lm E xs a σ K⟩) := by
  unfold happend
  cases srcE E.size x σ with
  | none => rfl
  | some xs => rfl
@[simp] theorem appA_nil (E : TI) (xs es : List (List D)) (σ : Store) (K : D → Store → Prop) : appA false E xs (.list es .nil) σ K = (((es.length + xs.length) * E.bytes ≤ 140737488355328 ∧ es.length + xs.length ≤ 9223372036854775807) ∧ (xs = [] → K (.list es .nil) σ) ∧ (xs ≠ [] → ∀ b c, σ b = none → es.length + xs.length ≤ c → K (.list (es ++ xs) (.own b c E.size)) (σ.set b (.spare (es.length + xs.length) c E.size)))) := (rfl)
@[simp] theorem appA_full (E : TI) (xs es : List (List D)) (σ : Store) (K : D → Store → Prop) : appA false E xs (.list es .full) σ K = (((es.length + xs.length) * E.bytes ≤ 140737488355328 ∧ es.length + xs.length ≤ 9223372036854775807) ∧ (xs = [] → K (.list es .full) σ) ∧ (xs ≠ [] → ∀ b c, σ b = none → es.length + xs.length ≤ c → K (.list (es ++ xs) (.own b c E.size)) (σ.set b (.spare (es.length + xs.length) c E.size)))) := (rfl)
@[simp] theorem appA_own (E : TI) (xs es : List (List D)) (b c k : Nat) (σ : Store) (K : D → Store → Prop) : appA false E xs (.list es (.own b c k)) σ K = (((es.length + xs.length) * E.bytes ≤ 140737488355328 ∧ es.length + xs.length ≤ 9223372036854775807) ∧ (σ b = some (.spare es.length c k) ∧ k = E.size) ∧
            (es.length + xs.length ≤ c → K (.list (es ++ xs) (.own b c k)) (σ.set b (.spare (es.length + xs.length) c k))) ∧
            (c < es.length + xs.length → ∀ b' c', σ b' = none → es.length + xs.length ≤ c' → K (.list (es ++ xs) (.own b' c' k)) (σ.set b' (.spare (es.length + xs.length) c' k)))) := (rfl)
@[simp] theorem appA_lm (E : TI) (xs es : List (List D)) (tok : Tok) (σ : Store) (K : D → Store → Prop) : appA true E xs (.list es tok) σ K = (((es.length + xs.length) * E.bytes ≤ 140737488355328 ∧ es.length + xs.length ≤ 9223372036854775807) ∧ tokList tok = true ∧ (xs = [] → K (.list es tok) σ) ∧ (xs ≠ [] → ∀ z, E.zero = some z → ∀ b c, σ b = none → es.length + xs.length ≤ c → c ≤ 9223372036854775807 →
          K (.lit (.slice (some ⟨b, 0, none⟩) (es.length + xs.length) c)) (σ.set b (.cells (es.flatten ++ xs.flatten ++ zrep (c - (es.length + xs.length)) z))))) := (rfl)
def appL (E : TI) (xs : List (List D)) (b o n c : Nat) (x : Option HObj) (σ : Store) (K : D → Store → Prop) : Prop := match x with
      | some (.cells ds) => (n ≤ c ∧ o + c * E.size ≤ ds.length ∧ (n + xs.length) * E.bytes ≤ 140737488355328 ∧ n + xs.length ≤ 9223372036854775807) ∧
          (n + xs.length ≤ c → K (.lit (.slice (some ⟨b, o, none⟩) (n + xs.length) c)) (σ.set b (.cells (spl ds (o + n * E.size) xs.flatten)))) ∧
          (c < n + xs.length → ∀ z, E.zero = some z → ∀ b' c', σ b' = none → n + xs.length ≤ c' → c' ≤ 9223372036854775807 →
            K (.lit (.slice (some ⟨b', 0, none⟩) (n + xs.length) c')) (σ.set b' (.cells ((ds.drop o).take (n * E.size) ++ xs.flatten ++ zrep (c' - (n + xs.length)) z))))
      | _ => False
@[simp] theorem appA_lit (E : TI) (xs : List (List D)) (b o n c : Nat) (σ : Store) (K : D → Store → Prop) : appA lm E xs (.lit (.slice (some ⟨b, o, none⟩) n c)) σ K = appL E xs b o n c (σ b) σ K := (rfl)
@[simp] theorem appL_cells (E : TI) (xs : List (List D)) (b o n c : Nat) (ds : List D) (σ : Store) (K : D → Store → Prop) : appL E xs b o n c (some (.cells ds)) σ K = ((n ≤ c ∧ o + c * E.size ≤ ds.length ∧ (n + xs.length) * E.bytes ≤ 140737488355328 ∧ n + xs.length ≤ 9223372036854775807) ∧
          (n + xs.length ≤ c → K (.lit (.slice (some ⟨b, o, none⟩) (n + xs.length) c)) (σ.set b (.cells (spl ds (o + n * E.size) xs.flatten)))) ∧
          (c < n + xs.length → ∀ z, E.zero = some z → ∀ b' c', σ b' = none → n + xs.length ≤ c' → c' ≤ 9223372036854775807 →
            K (.lit (.slice (some ⟨b', 0, none⟩) (n + xs.length) c')) (σ.set b' (.cells ((ds.drop o).take (n * E.size) ++ xs.flatten ++ zrep (c' - (n + xs.length)) z))))) := (rfl)
def clrC (E : TI) (b o n : Nat) (z : List D) (x : Option HObj) (σ : Store) (K : D → Store → Prop) : Prop := match x with
  | some (.cells ds) => (z.length = E.size ∧ o + n * E.size ≤ ds.length) ∧ K (.tup []) (σ.set b (.cells (spl ds o (zrep n z))))
  | _ => False
@[simp] theorem clrC_cells (E : TI) (b o n : Nat) (z : List D) (ds : List D) (σ : Store) (K : D → Store → Prop) : clrC E b o n z (some (.cells ds)) σ K = ((z.length = E.size ∧ o + n * E.size ≤ ds.length) ∧ K (.tup []) (σ.set b (.cells (spl ds o (zrep n z))))) := (rfl)
@[simp] theorem hclear_lit (k : KK) (sz by' : Nat) (z : List D) (fl : List (Nat × Nat × Bool)) (b o n c : Nat) (σ : Store) (K : D → Store → Prop) : hclear ⟨k, sz, by', some z, fl⟩ (.lit (.slice (some ⟨b, o, none⟩) n c)) σ K = (if n = 0 then K (.tup []) σ else clrC ⟨k, sz, by', some z, fl⟩ b o n z (σ b) σ K) := (rfl)
@[simp] theorem hclear_list (E : TI) (tok : Tok) (σ : Store) (K : D → Store → Prop) : hclear E (.list [] tok) σ K = K (.tup []) σ := (rfl)
def bsC (lm : Bool) (E : TI) (n : Nat) (z : List D) (ds : Option (List D)) (σ : Store) (K : D → Store → Prop) : Prop := match ds with
  | some ds => if lm then ∀ b, σ b = none → K (.lit (.slice (some ⟨b, 0, none⟩) n n)) (σ.set b (.cells ds)) else K (.list (chunk n E.size ds) .full) σ
  | none => False
@[simp] theorem bsC_t (E : TI) (n : Nat) (z ds : List D) (σ : Store) (K : D → Store → Prop) : bsC true E n z (some ds) σ K = ∀ b, σ b = none → K (.lit (.slice (some ⟨b, 0, none⟩) n n)) (σ.set b (.cells ds)) := (rfl)
@[simp] theorem bsC_f (E : TI) (n : Nat) (z ds : List D) (σ : Store) (K : D → Store → Prop) : bsC false E n z (some ds) σ K = K (.list (chunk n E.size ds) .full) σ := (rfl)
def placeS (k : Nat) (i : Nat) : Option (Nat × Nat) := some (i * k, k)
@[simp] theorem placeS_eq (k i : Nat) : placeS k i = some (i * k, k) := (rfl)
@[simp] theorem hbs_eq (k : KK) (sz by' n : Nat) (z : List D) (fl : List (Nat × Nat × Bool)) (parts : List (Nat × D)) (σ : Store) (K : D → Store → Prop) : hbuildSlice lm ⟨k, sz, by', some z, fl⟩ n parts σ K = ((n * sz ≤ 16777216 ∧ n ≤ 16777216) ∧ z.length = sz ∧ bsC lm ⟨k, sz, by', some z, fl⟩ n z (fillD (placeS sz) (zrep n z) parts) σ K) := (rfl)
@[simp] theorem zrep_zero (z : List D) : zrep 0 z = [] := (rfl)
@[simp] theorem zrep_succ (n : Nat) (z : List D) : zrep (n + 1) z = z ++ zrep n z := by simp [zrep, List.replicate_succ]
@[simp] theorem chunk_zero (k : Nat) (ds : List D) : chunk 0 k ds = [] := (rfl)
@[simp] theorem chunk_succ (n k : Nat) (ds : List D) : chunk (n + 1) k ds = ds.take k :: chunk n k (ds.drop k) := (rfl)

/-! ### Results -/
@[simp ↓] theorem hres_nil (e : Env) (s : Store) (K : List D → Prop) : hres P [] e s K = K [] := (rfl)
@[simp ↓] theorem hres_tmp (t : Nat) (r : List ResultVar) (e : Env) (s : Store) (K : List D → Prop) : hres P (.tmp t :: r) e s K = hres P r e s (@bx _ ⟨fun ds => K (e t :: ds)⟩) := (rfl)
@[simp ↓] theorem hres_cell (a : Nat) (t : TypeId) (r : List ResultVar) (e : Env) (s : Store) (K : List D → Prop) : hres P (.cell a t :: r) e s K = wtx P t (@bx _ ⟨fun X => hload X.T (e a) s (@bx _ ⟨fun d => hres P r e s (@bx _ ⟨fun ds => K (d :: ds)⟩)⟩)⟩) := (rfl)
@[simp] theorem tupD_one (d : D) : tupD [d] = d := (rfl)
@[simp] theorem tupD_nil : tupD [] = .tup [] := (rfl)
@[simp] theorem tupD_two (a b : D) (r : List D) : tupD (a :: b :: r) = .tup (a :: b :: r) := (rfl)
/-- The same with the ends by name. -/
def endK (P : Program) (rs : List ResultVar) (Q : D → Store → Prop) (e : Env) (s : Store) : Prop := hres P rs e s fun ds => ∃ s', SLe s' s ∧ Q (tupD ds) s'
def retK' (P : Program) (rs : List ResultVar) (Q : D → Store → Prop) : Kont := { n := endK P rs Q, r := endK P rs Q, x := fun _ _ _ => False }
theorem endK_of (rs : List ResultVar) (Q : D → Store → Prop) (e : Env) (s : Store) (h : hres P rs e s fun ds => Q (tupD ds) s) : endK P rs Q e s := by
  unfold endK
  revert Q
  have gen : ∀ (rs : List ResultVar) (A B : List D → Prop), (∀ ds, A ds → B ds) → hres P rs e s A → hres P rs e s B := by
    intro rs
    induction rs with
    | nil => intro A B h x; exact h _ x
    | cons r rs ih =>
      intro A B h x
      cases r with
      | tmp t => exact ih _ _ (fun ds => h _) x
      | cell a t =>
        simp only [hres] at x ⊢
        unfold wtx at x ⊢
        split at x
        · unfold hload at x ⊢
          repeat' split at x <;> first | exact x.elim | exact ⟨x.1, ih _ _ (fun ds => h _) x.2⟩ | skip
        · exact x.elim
  intro Q h
  exact gen rs _ _ (fun ds h => ⟨s, SLe.refl s, h⟩) h
@[simp ↓] theorem retK_n (rs : List ResultVar) (Q : D → Store → Prop) : (retK' P rs Q).n = endK P rs Q := (rfl)
@[simp ↓] theorem retK_r (rs : List ResultVar) (Q : D → Store → Prop) : (retK' P rs Q).r = endK P rs Q := (rfl)
@[simp ↓] theorem endK_def (rs : List ResultVar) (Q : D → Store → Prop) (e : Env) (s : Store) : endK P rs Q e s = hres P rs e s (@bx _ ⟨fun ds => ∃ s', SLe s' s ∧ Q (tupD ds) s'⟩) := (rfl)
/-- A contract, from the body. -/
theorem HCalls.start (hm : P.follows .mixedOrders = true) (lm : Bool) {f : FuncId} {fn : Func} (c : Code) (rs : List ResultVar) {σ : Store} (hf : P.funcs[f]? = some fn) (hb : fn.body = some c) (hc : codeOk fn.ntmps c = true) (hrs : fn.results.toList = rs) (hr : rs.all (resOk fn.ntmps) = true) {ds : List D} (hds : decide (ds.length ≤ fn.ntmps) = true) {Q : D → Store → Prop}
    (h : hwp P lm c (retK' P rs Q) (initEnv ds) σ) : HCalls P f ds σ Q :=
  HCalls.of_body hm lm hf hb hc (by rw [hrs]; exact hr) (by simpa using hds) (by subst hrs; exact h)
/-- A function that hands back this, and leaves the store. -/
def Ret (P : Program) (f : FuncId) (ds : List D) (r : D) : Prop := ∀ (σ : Store) (Q : D → Store → Prop), Q r σ → HCalls P f ds σ Q
theorem hloop_intro (I : Nat → Env → Store → Prop) (n : Nat) {b : Kont → Env → Store → Prop} {K : Kont} {e : Env} {s : Store} (h0 : I n e s)
    (step : ∀ n e s, I n e s → b (@bx _ ⟨{ K with n := fun e' s' => ∃ m s'', m < n ∧ SLe s'' s' ∧ I m e' s'' }⟩) e s) : hloop b K e s := ⟨I, ⟨n, s, SLe.refl s, h0⟩, step⟩
theorem again {n : Nat} {I : Nat → Env → Store → Prop} {e : Env} {s s0 : Store} (hs : SLe s0 s) (m : Nat) (hm : m < n) (h : I m e s0) : ∃ m s'', m < n ∧ SLe s'' s ∧ I m e s'' := ⟨m, s0, hm, hs, h⟩
theorem SLe.set {σ σ' : Store} (h : SLe σ σ') {b : Nat} (hb : σ' b = none) (o : HObj) : SLe σ (σ'.set b o) := by
  intro x o' e
  have := h x o' e
  by_cases hx : x = b
  · subst hx; rw [hb] at this; cases this
  · rw [Store.set_ne _ _ _ _ hx]; exact this
theorem wrap_i64 (x : Int) (h0 : -9223372036854775808 ≤ x) (h1 : x ≤ 9223372036854775807) : IntKind.i64.wrap x = x := by
  exact IntWalk.i64_in x ⟨h0, h1⟩
theorem leaf {σ σ' : Store} {Q : D → Store → Prop} {d : D} (hs : SLe σ σ') (h : Q d σ) : ∃ s', SLe s' σ' ∧ Q d s' := ⟨σ, hs, h⟩

@[simp] theorem hgd_undef (w : Bool) (A B : Prop) : hgd (.lit undef) w (@bx _ ⟨A⟩) (@bx _ ⟨B⟩) = B := (rfl)
/-- A loop that leaves the store as it was, as far as anybody asks. -/
theorem hloop_fix (I : Nat → Env → Prop) (n : Nat) {b : Kont → Env → Store → Prop} {K : Kont} {e : Env} {s : Store} (h0 : I n e)
    (step : ∀ n e, I n e → b (@bx _ ⟨{ K with n := fun e' s' => SLe s s' ∧ ∃ m, m < n ∧ I m e' }⟩) e s) : hloop b K e s :=
  ⟨fun n e s' => s' = s ∧ I n e, ⟨n, s, SLe.refl s, rfl, h0⟩, fun n e s' ⟨h1, h2⟩ => by
    subst h1
    have := step n e h2
    have heq : ({ K with n := fun e' s'' => ∃ m s2, m < n ∧ SLe s2 s'' ∧ s2 = s' ∧ I m e' } : Kont) = { K with n := fun e' s'' => SLe s' s'' ∧ ∃ m, m < n ∧ I m e' } := by
      congr 1
      funext e' s''
      apply propext
      constructor
      · rintro ⟨m, s2, h1, h2, rfl, h3⟩; exact ⟨h2, m, h1, h3⟩
      · rintro ⟨h2, m, h1, h3⟩; exact ⟨m, s', h1, h2, rfl, h3⟩
    rw [heq]; exact this⟩
/-! ### Draws -/
theorem cut_all {ops : List Oper} (A : List Nat) : cutOk ops A ops.length = true := by
  unfold cutOk
  simp only [Bool.and_eq_true, decide_eq_true_eq, List.all_eq_true, List.mem_range, Bool.or_eq_true]
  exact ⟨Nat.le_refl _, fun k hk => .inl hk⟩
/-- What is read is a part of what stands written. -/
theorem hdraw_part (σ0 : Store) {ops : List Oper} {e : Env} {s : Store} {N : Env → Store → Prop} (hs : SLe σ0 s) (h1 : drawOk P lm ops = true) (h2 : hseq P lm σ0 (@bx _ ⟨ops⟩) (@bx _ ⟨ops⟩) e s N) : hdraw P lm ⟨ops⟩ e s N := by
  refine .inr ⟨h1, ops.length, σ0, cut_all _, hs, ?_⟩
  rw [List.take_length]
  have mono : ∀ (r : List Oper) (e : Env) (s : Store) (N N' : Env → Store → Prop), (∀ e s, N e s → N' e s) → hseq P lm σ0 ops r e s N → hseq P lm σ0 ops r e s N' := by
    intro r
    induction r with
    | nil => intro e s N N' hn h; exact hn _ _ h
    | cons o r ih =>
      intro e s N N' hn h
      rw [hseq_cons] at h ⊢
      exact G_frame (fun _ _ => rfl) (fun d s' h => ih _ _ _ _ hn h) h
  refine mono ops e s N _ (fun e s h => ⟨s, SLe.refl s, ?_⟩) h2
  rw [List.drop_length]
  exact h
theorem hdraw_intro {ops : List Oper} {e : Env} {s : Store} {N : Env → Store → Prop} (h1 : drawOk P lm ops = true) (h2 : hseq P lm s (@bx _ ⟨ops⟩) (@bx _ ⟨ops⟩) e s N) : hdraw P lm ⟨ops⟩ e s N := hdraw_part s (SLe.refl s) h1 h2
@[simp] theorem hseq_nil (σ0 : Store) (all : List Oper) (e : Env) (s : Store) (N : Env → Store → Prop) : hseq P lm σ0 (@bx _ ⟨all⟩) (@bx _ ⟨[]⟩) e s N = N e s := (rfl)
@[simp] theorem hseq_one (σ0 : Store) (all : List Oper) (d : Option Tmp) (op : Op) (ty : TypeId) (pos : String) (af : Array Edge) (r : List Oper) (e : Env) (s : Store) (N : Env → Store → Prop) :
    hseq P lm σ0 (@bx _ ⟨all⟩) (@bx _ ⟨{ dst := d, op := op, type := ty, pos := pos, after := af, guard := none } :: r⟩) e s N = stepD P lm σ0 op e s (@bx _ ⟨fun v s' => hseq P lm σ0 (@bx _ ⟨all⟩) (@bx _ ⟨r⟩) (updo e d v) s' N⟩) := (rfl)
@[simp] theorem hseq_guard (σ0 : Store) (all : List Oper) (d : Option Tmp) (op : Op) (ty : TypeId) (pos : String) (af : Array Edge) (r : List Oper) (e : Env) (s : Store) (N : Env → Store → Prop) (j : Nat) (want : Bool) :
    hseq P lm σ0 (@bx _ ⟨all⟩) (@bx _ ⟨{ dst := d, op := op, type := ty, pos := pos, after := af, guard := some (j, want) } :: r⟩) e s N =
      hgo (dstAt all j) e want (@bx _ ⟨stepD P lm σ0 op e s (@bx _ ⟨fun v s' => hseq P lm σ0 (@bx _ ⟨all⟩) (@bx _ ⟨r⟩) (updo e d v) s' N⟩)⟩) (@bx _ ⟨hseq P lm σ0 (@bx _ ⟨all⟩) (@bx _ ⟨r⟩) (updo e d (.lit undef)) s N⟩) := by
  simp only [hseq, guardD, dstAt_eq, hgo, bx]
  cases dstAt all j with
  | none => rfl
  | some t => simp only [hgd]; rfl
/-- The first so many, then what is read may be chosen anew. -/
def hseqN (P : Program) (lm : Bool) (c : Nat) (σ0 : Store) (all r : List Oper) (e : Env) (s : Store) (N : Env → Store → Prop) : Prop :=
  hseq P lm σ0 all (r.take c) e s fun e s => ∃ σ1, SLe σ1 s ∧ hseq P lm σ1 all (r.drop c) e s N
@[simp] theorem hseqN_zero (σ0 : Store) (all r : List Oper) (e : Env) (s : Store) (N : Env → Store → Prop) : hseqN P lm 0 σ0 (@bx _ ⟨all⟩) (@bx _ ⟨r⟩) e s N = ∃ σ1, SLe σ1 s ∧ hseq P lm σ1 (@bx _ ⟨all⟩) (@bx _ ⟨r⟩) e s N := (rfl)
@[simp] theorem hseqN_one (c : Nat) (σ0 : Store) (all : List Oper) (d : Option Tmp) (op : Op) (ty : TypeId) (pos : String) (af : Array Edge) (r : List Oper) (e : Env) (s : Store) (N : Env → Store → Prop) :
    hseqN P lm (c + 1) σ0 (@bx _ ⟨all⟩) (@bx _ ⟨{ dst := d, op := op, type := ty, pos := pos, after := af, guard := none } :: r⟩) e s N = stepD P lm σ0 op e s (@bx _ ⟨fun v s' => hseqN P lm c σ0 (@bx _ ⟨all⟩) (@bx _ ⟨r⟩) (updo e d v) s' N⟩) := (rfl)
@[simp] theorem hseqN_guard (c : Nat) (σ0 : Store) (all : List Oper) (d : Option Tmp) (op : Op) (ty : TypeId) (pos : String) (af : Array Edge) (r : List Oper) (e : Env) (s : Store) (N : Env → Store → Prop) (j : Nat) (want : Bool) :
    hseqN P lm (c + 1) σ0 (@bx _ ⟨all⟩) (@bx _ ⟨{ dst := d, op := op, type := ty, pos := pos, after := af, guard := some (j, want) } :: r⟩) e s N =
      hgo (dstAt all j) e want (@bx _ ⟨stepD P lm σ0 op e s (@bx _ ⟨fun v s' => hseqN P lm c σ0 (@bx _ ⟨all⟩) (@bx _ ⟨r⟩) (updo e d v) s' N⟩)⟩) (@bx _ ⟨hseqN P lm c σ0 (@bx _ ⟨all⟩) (@bx _ ⟨r⟩) (updo e d (.lit undef)) s N⟩) := by
  simp only [hseqN, hseq, guardD, dstAt_eq, hgo, bx, List.take_succ_cons, List.drop_succ_cons]
  cases dstAt all j with
  | none => rfl
  | some t => simp only [hgd]; rfl
/-- In two parts: from a place on that stands behind all ahead of it, what is read may be chosen anew. -/
theorem hdraw_cut (c : Nat) (σ0 : Store) {ops : List Oper} {e : Env} {s : Store} {N : Env → Store → Prop} (hs : SLe σ0 s) (h1 : drawOk P lm ops = true) (hc : cutOk ops (ancs ops []) c = true)
    (h2 : hseqN P lm c σ0 (@bx _ ⟨ops⟩) (@bx _ ⟨ops⟩) e s N) : hdraw P lm ⟨ops⟩ e s N := .inr ⟨h1, c, σ0, hc, hs, h2⟩
def stepB (c : Bool) (A B : Prop) : Prop := if c then A else B
@[simp] theorem stepB_true (A B : Prop) : stepB true (@bx _ ⟨A⟩) (@bx _ ⟨B⟩) = A := by simp [stepB, bx]
@[simp] theorem stepB_false (A B : Prop) : stepB false (@bx _ ⟨A⟩) (@bx _ ⟨B⟩) = B := by simp [stepB, bx]
@[simp ↓] theorem stepD_eq (σ0 : Store) (o : Op) (e : Env) (s : Store) (K : D → Store → Prop) : stepD P lm σ0 o e s K = stepB (calm P lm o) (@bx _ ⟨hop P lm o e σ0 (@bx _ ⟨fun d _ => K d s⟩)⟩) (@bx _ ⟨hop P lm o e s (@bx _ ⟨fun d s' => SLe σ0 s' ∧ K d s'⟩)⟩) := (rfl)
@[simp] theorem SLe_self (σ : Store) : SLe σ σ = True := by simp [SLe.refl]
@[simp] theorem SLe_new (σ : Store) (b : Nat) (o : HObj) (h : σ b = none) : SLe σ (σ.set b o) = True := by simp [SLe.set (SLe.refl σ) h o]
@[simp] theorem SLe_new2 (σ σ' : Store) (b : Nat) (o : HObj) (h : σ' b = none) (hs : SLe σ σ') : SLe σ (σ'.set b o) = True := by simp [SLe.set hs h o]
theorem notSlice_of {t : TypeId} {X : TX} (h : tx P t = some X) : notSlice P t = !X.T.kk.isSlice := by simp [notSlice, h]
section
variable (x y z : Operand) (t u : TypeId) (n : Nat) (b : Bool)
@[simp ↓] theorem calm_move : calm P lm (.move x) = true := (rfl)
@[simp ↓] theorem calm_assign : calm P lm (.assign x) = true := (rfl)
@[simp ↓] theorem calm_pick : calm P lm (.pick x y z) = true := (rfl)
@[simp ↓] theorem calm_build (p) : calm P lm (.build t p) = true := (rfl)
@[simp ↓] theorem calm_load : calm P lm (.load t x) = true := (rfl)
@[simp ↓] theorem calm_nilCheck : calm P lm (.nilCheck x) = true := (rfl)
@[simp ↓] theorem calm_unOp (o) : calm P lm (.unOp o t x) = true := (rfl)
@[simp ↓] theorem calm_convert : calm P lm (.convert t u x) = true := (rfl)
@[simp ↓] theorem calm_iface : calm P lm (.makeInterface t x) = true := (rfl)
@[simp ↓] theorem calm_func (f p q) : calm P lm (.makeFunc f p q) = true := (rfl)
@[simp ↓] theorem calm_fieldAddr : calm P lm (.fieldAddr t x n) = true := (rfl)
@[simp ↓] theorem calm_field : calm P lm (.field t x n) = true := (rfl)
@[simp ↓] theorem calm_indexAddr : calm P lm (.indexAddr t x y) = true := (rfl)
@[simp ↓] theorem calm_index : calm P lm (.index t x y) = true := (rfl)
@[simp ↓] theorem calm_lookup : calm P lm (.lookup t x y b) = true := (rfl)
@[simp ↓] theorem calm_extract : calm P lm (.extract x n) = true := (rfl)
@[simp ↓] theorem calm_slice (l h) : calm P lm (.slice t x l h none) = true := (rfl)
@[simp ↓] theorem calm_binOp (o) : calm P lm (.binOp o t x y u) = notSlice P t := (rfl)
@[simp ↓] theorem calm_buildSlice (p) : calm P lm (.buildSlice t n p) = !lm := (rfl)
@[simp ↓] theorem calm_len (a ts) : calm P lm (.call { callee := .builtin .len, args := a, argTypes := ts }) = true := (rfl)
@[simp ↓] theorem calm_min (a ts) : calm P lm (.call { callee := .builtin .min, args := a, argTypes := ts }) = true := (rfl)
@[simp ↓] theorem calm_max (a ts) : calm P lm (.call { callee := .builtin .max, args := a, argTypes := ts }) = true := (rfl)
@[simp ↓] theorem calm_append (a ts) : calm P lm (.call { callee := .builtin .append, args := a, argTypes := ts }) = false := (rfl)
@[simp ↓] theorem calm_copy (a ts) : calm P lm (.call { callee := .builtin .copy, args := a, argTypes := ts }) = false := (rfl)
@[simp ↓] theorem calm_clear (a ts) : calm P lm (.call { callee := .builtin .clear, args := a, argTypes := ts }) = false := (rfl)
@[simp ↓] theorem calm_call (a ts) : calm P lm (.call { callee := .value x, args := a, argTypes := ts }) = false := (rfl)
@[simp ↓] theorem calm_alloc : calm P lm (.alloc t) = false := (rfl)
@[simp ↓] theorem calm_box : calm P lm (.box t x) = false := (rfl)
@[simp ↓] theorem calm_store : calm P lm (.store t x y) = false := (rfl)
@[simp ↓] theorem calm_makeMap (q) : calm P lm (.makeMap t q) = false := (rfl)
@[simp ↓] theorem calm_makeSlice : calm P lm (.makeSlice t x y) = false := (rfl)
@[simp ↓] theorem calm_mapUpdate : calm P lm (.mapUpdate t x y z) = false := (rfl)
end
end Go.HL
