/- HL, part I: the remaining operations. -/
import Derived.Test.YtdbbbhjajkobaabHLH
set_option linter.unusedVariables false
set_option linter.unusedSimpArgs false
namespace Go.HL
open Go.RowKit
variable {P : Program} {w0 w : World} {M : Mem} {σ : Store}

/-! small ones -/
def hun (op : UnOp) (d : D) (K : D → Prop) : Prop :=
  match op, d with
  | .not, .lit (.bool b) => K (.bool (!b))
  | .neg, .lit (.int k n) => K (.int k (k.wrap (0 - n)))
  | _, _ => False
theorem un_goes (h : Sim w0 M σ w) (op : UnOp) {v : Value} {d : D} (hv : Den M v d) {K : D → Store → Prop} (hk : hun op d (K · σ)) : Goes P (Op.unary op v) w0 M w K := by
  unfold hun at hk
  split at hk
  · have := den_lit_inv hv; subst this
    exact Goes.pure h (by simp [Op.unary]) (.lit _) hk
  · have := den_lit_inv hv; subst this
    exact Goes.pure h (by simp [Op.unary, Op.intArith]) (.lit _) hk
  · exact hk.elim

def hextract (d : D) (i : Nat) (K : D → Prop) : Prop :=
  match d with
  | .tup ds => match ds[i]? with
    | some x => K x
    | none => False
  | _ => False
theorem extract_goes (h : Sim w0 M σ w) {v : Value} {d : D} (hv : Den M v d) (i : Nat) {K : D → Store → Prop} (hk : hextract d i (K · σ)) : Goes P (Instr.extract v i) w0 M w K := by
  unfold hextract at hk
  split at hk
  · split at hk
    · rename_i ds x hx
      cases hv with
      | tup vs _ hs hd =>
        have hlt : i < vs.size := by have := (List.getElem?_eq_some_iff.1 hx).1; omega
        exact Goes.pure h (v := vs.getD i undef) (by simp [Instr.extract, hlt, Array.getD]) (hd i x hx) hk
    · exact hk.elim
  · exact hk.elim

def litOf : D → Option Value
  | .lit v => some v
  | _ => none
def litsOf : List D → Option (List Value)
  | [] => some []
  | d :: ds => match litOf d, litsOf ds with
    | some v, some vs => some (v :: vs)
    | _, _ => none
theorem litsOf_spec : ∀ (ds : List D) (vs ls : List Value), litsOf ds = some ls → vs.length = ds.length → (∀ i d, ds[i]? = some d → Den M (vs.getD i undef) d) → vs = ls := by
  intro ds
  induction ds with
  | nil => intro vs ls h hl _; simp [litsOf] at h; subst h; exact List.eq_nil_of_length_eq_zero (by simpa using hl)
  | cons d ds ih =>
    intro vs ls h hl hd
    cases vs with
    | nil => simp at hl
    | cons v vs =>
      simp only [litsOf] at h
      split at h
      · rename_i a b h1 h2
        injection h with h
        subst h
        cases d <;> simp [litOf] at h1
        subst h1
        have e1 := den_lit_inv (hd 0 _ rfl)
        simp at e1
        subst e1
        rw [ih vs b h2 (by simpa using hl) (fun i d hi => by have := hd (i + 1) d (by simpa using hi); simpa using this)]
      · cases h

def hiface (T : TI) (t : TypeId) (d : D) (K : D → Prop) : Prop :=
  match d with
  | .lit v => T.kk.isIface = false ∧ K (.lit (.iface t v))
  | _ => False
theorem iface_goes (h : Sim w0 M σ w) {t : TypeId} {T : TI} (hT : ti P t = some T) {v : Value} {d : D} (hv : Den M v d) {K : D → Store → Prop} (hk : hiface T t d (K · σ)) : Goes P (Instr.makeInterface t v) w0 M w K := by
  obtain ⟨dd, hu, hkk⟩ := kk_desc hT
  unfold hiface at hk
  split at hk
  · have := den_lit_inv hv; subst this
    refine Goes.pure h ?_ (.lit _) hk.2
    have := hk.1
    rw [hkk] at this
    cases dd <;> simp_all [kkOf, KK.isIface, Instr.makeInterface, run_underlying hu]
  · exact hk.elim

/-! conversions -/
def KK.isStr : KK → Bool
  | .str => true
  | _ => false
def KK.isU8 : KK → Bool
  | .int .u8 => true
  | _ => false
def KK.bytes (P : Program) : KK → Bool
  | .slice e => (kindOf P e).isU8
  | _ => false
theorem isStr_desc {d : TypeDesc} (h : (kkOf d).isStr = true) : d = .string := by cases d <;> simp [kkOf, KK.isStr] at h; rfl
theorem bytes_desc {d : TypeDesc} (h : (kkOf d).bytes P = true) : ∃ e, d = .slice e ∧ P.underlying e = some (.int .u8) := by
  cases d <;> simp [kkOf, KK.bytes] at h
  rename_i e
  refine ⟨e, rfl, ?_⟩
  unfold kindOf at h
  split at h
  · rename_i d hd
    cases d <;> simp [kkOf, KK.isU8] at h
    rename_i k
    cases k <;> simp [KK.isU8] at h
    exact hd
  · simp [KK.isU8] at h
def hconv (P : Program) (S T : TI) (d : D) (K : D → Prop) : Prop :=
  match d with
  | .lit (.int _ n) => match T.kk with
    | .int k => K (.int k (k.wrap n))
    | _ => False
  | .lit (.string s) => S.kk.isStr = true ∧ (T.kk.isStr = true → K (.str s)) ∧ (T.kk.bytes P = true → K (.list (bytesD s) .ro)) ∧ (T.kk.isStr = true ∨ T.kk.bytes P = true)
  | .list es _ => (S.kk.bytes P = true ∧ T.kk.isStr = true) ∧ ∃ s, es = bytesD s ∧ K (.str s)
  | _ => False

theorem kindOf_desc {t : TypeId} {k : IntKind} (h : kindOf P t = .int k) : P.underlying t = some (.int k) := by
  unfold kindOf at h
  split at h
  · rename_i d hd
    cases d <;> simp [kkOf] at h
    subst h; exact hd
  · cases h

theorem run_markStringish (w : World) (b : Nat) (cs : Array Value) (t : TypeId) (hb : w.heap[b]? = some (.cells cs t (0, 0))) (w0 : World) (M : Mem) (σ : Store) (h : Sim w0 M σ w) (hσ : σ b = none) (hlow : w0.heap.size ≤ b) :
    ∃ w', (markStringish ⟨b, 0, none⟩).run P w = .ok () w' ∧ Sim w0 M σ w' := by
  have hs : w.shape? b = some (t, cs.size) := by simp [World.shape?, hb]
  refine ⟨w.freeze ⟨b, cs.size, none⟩ 1, ?_, ?_⟩
  · simp [markStringish, hs]
  · have hheap : ∀ x, x ≠ b → (w.freeze ⟨b, cs.size, none⟩ 1).heap[x]? = w.heap[x]? := fun x hx => by
      simp only [World.freeze, Nat.one_ne_zero, if_false, Array.getElem?_modify]
      rw [if_neg (by simpa using fun e => hx e.symm)]
    have hat : (w.freeze ⟨b, cs.size, none⟩ 1).heap[b]? = some (.cells cs t (cs.size, cs.size + 1)) := by
      simp [World.freeze, Array.getElem?_modify, hb]
    refine ⟨⟨h.base.os, h.base.tape, h.base.output, ?_, fun k hk => (hheap k (by omega)).trans (h.base.block k hk)⟩, h.low, fun x o v e => ?_, fun x ds e => ?_, fun x n c k e => ?_, fun x es e => ?_⟩
    · simp only [World.freeze, Nat.one_ne_zero, if_false, Array.size_modify]; exact h.base.size
    · obtain ⟨m1, m2⟩ := h.mem x o v e
      refine ⟨?_, m2⟩
      by_cases hx : x = b
      · subst hx
        rw [cell_of_row _ _ o cs t _ hat]
        rwa [cell_of_row w x o cs t (0, 0) hb] at m1
      · rw [World.cell?_of_block (w := w) (hheap x hx)]; exact m1
    · have hx : x ≠ b := fun hh => by subst hh; rw [hσ] at e; cases e
      rw [hheap x hx]; exact h.cells x ds e
    · have hx : x ≠ b := fun hh => by subst hh; rw [hσ] at e; cases e
      rw [hheap x hx]; exact h.spare x n c k e
    · have hx : x ≠ b := fun hh => by subst hh; rw [hσ] at e; cases e
      rw [hheap x hx]; exact h.maps x es e

theorem conv_goes (h : Sim w0 M σ w) {s t : TypeId} {S T : TI} (hS : ti P s = some S) (hT : ti P t = some T) {v : Value} {d : D} (hv : Den M v d) (hsz : SizedAs d 1) {K : D → Store → Prop} (hk : hconv P S T d (K · σ)) (hlong : ∀ x, d = .str x → x.size ≤ 9223372036854775807) : Goes P (convert s t v) w0 M w K := by
  obtain ⟨ds, hus, hks⟩ := kk_desc hS
  obtain ⟨dt, hut, hkt⟩ := kk_desc hT
  unfold hconv at hk
  split at hk
  · rename_i k' n
    have := den_lit_inv hv; subst this
    split at hk
    · rename_i k e1
      refine Goes.pure h ?_ (.lit _) hk
      rw [hkt] at e1
      cases dt <;> simp [kkOf] at e1
      subst e1
      simp [convert, run_underlying hus, run_underlying hut, Conv.intToInt]
    · exact hk.elim
  · rename_i x
    have := den_lit_inv hv; subst this
    obtain ⟨h1, h2, h3, h4⟩ := hk
    rw [hks] at h1
    obtain rfl := isStr_desc h1
    have hlen := hlong x rfl
    rw [hkt] at h2 h3 h4
    by_cases hts : (kkOf dt).isStr = true
    · obtain rfl := isStr_desc hts
      refine Goes.pure h ?_ (.lit _) (h2 hts)
      simp [convert, run_underlying hus, run_underlying hut]
    have htb := h4.resolve_left hts
    obtain ⟨e', rfl, hue⟩ := bytes_desc htb
    have hk := h3 htb
    have hge := grownCap_ge w x.size 0 e'
    have hle := grownCap_le_maxLen w x.size 0 e' (by simp only [maxLen]; omega)
    simp only [maxLen] at hle
    have hpx : Pts M (x.data.map fun b => Value.int .u8 (b.toNat : Int)) (bytesD x).flatten := by
      have hfl : (bytesD x).flatten = x.data.toList.map fun b => D.int .u8 (b.toNat : Int) := by
        simp [bytesD, List.flatten_eq_flatMap, List.flatMap_map]
        rw [List.map_eq_flatMap]
      rw [hfl]
      refine ⟨by simp, fun i hi => ?_, fun i d hd => ?_⟩
      · simp at hi
        simp [Array.getD, hi, Value.oneCell']
      · rw [List.getElem?_map] at hd
        obtain ⟨y, hy, rfl⟩ := Option.map_eq_some_iff.1 hd
        rw [Array.getElem?_toList] at hy
        obtain ⟨y1, y2⟩ := Array.getElem?_eq_some_iff.1 hy
        have : ((x.data.map fun b => Value.int .u8 (b.toNat : Int)).getD i undef) = .int .u8 (y.toNat : Int) := by
          have y3 : i < x.size := y1
          simp [Array.getD, y3, y2]
        rw [this]; exact .lit _
    have hp : Pts M ((x.data.map fun b => Value.int .u8 (b.toNat : Int)) ++ Array.replicate (grownCap w x.size 0 e' - x.size) (.int .u8 0)) ((bytesD x).flatten ++ List.replicate (grownCap w x.size 0 e' - x.size) (.int .u8 0)) := by
      refine hpx.append ⟨by simp, fun i hi => ?_, fun i d hd => ?_⟩
      · simp at hi; simp [Array.getD, hi, Value.oneCell']
      · have := List.mem_of_getElem? hd
        obtain ⟨i1, rfl⟩ := List.mem_replicate.1 this
        have i2 := (List.getElem?_eq_some_iff.1 hd).1
        simp at i2
        have : (Array.replicate (grownCap w x.size 0 e' - x.size) (Value.int .u8 0)).getD i undef = .int .u8 0 := by simp [Array.getD, i2]
        rw [this]; exact .lit _
    obtain ⟨g1, g2⟩ := h.drew.alloc_pub _ e' (x.size * 1) (fun j _ hj => hp.one j hj)
    obtain ⟨w', m1, m2⟩ := run_markStringish (P := P) _ w.heap.size _ e' (heap_push_at w.drew _) w0 _ σ g1 h.fresh h.base.size
    obtain ⟨f1, f2⟩ := flatten_get (bytesD x) (k := 1) (fun e he => by obtain ⟨b, -, rfl⟩ := List.mem_map.1 he; rfl)
    have hbl : (bytesD x).length = x.size := by simp [bytesD]
    refine ⟨.slice (some ⟨w.heap.size, 0, none⟩) x.size (grownCap w x.size 0 e'), w', _, _, _, ?_, g2, m2, den_new_list (n := x.size) (k := 1) (hp.mono g2) (by simp [f1, hbl]) hge hle .ro (bytesD x) hbl (fun i e he => ?_) (fun i e j d he hd => ?_) trivial, hk⟩
    · have hch : (choose (.appendCap x.size 0 e')).run P w = .ok (grownCap w x.size 0 e') w.drew := by simp [Question.forced, grownCap]
      simp only [convert, Sem.run_bind, run_underlying hus, run_underlying hut, Result.andThen_ok, run_underlying hue, Conv.stringToBytes, hch, newRow, run_newObj, World.alloc_eq, Sem.run_pure]
      have m1' := m1
      simp only [World.size_drew] at m1' ⊢
      rw [m1']
      rfl
    · obtain ⟨b, -, rfl⟩ := List.mem_map.1 (List.mem_of_getElem? he); rfl
    · have hj : j < 1 := by
        have h3 := (List.getElem?_eq_some_iff.1 hd).1
        obtain ⟨b, -, rfl⟩ := List.mem_map.1 (List.mem_of_getElem? he); exact h3
      have hi : i < (bytesD x).length := (List.getElem?_eq_some_iff.1 he).1
      rw [List.getElem?_append_left (by rw [f1]; omega), f2 i e j he hj]; exact hd
  · -- bytes as a text
    rename_i es tok
    obtain ⟨⟨h1, h2⟩, x, rfl, hk⟩ := hk
    rw [hks] at h1
    rw [hkt] at h2
    obtain ⟨e', rfl, hue⟩ := bytes_desc h1
    obtain rfl := isStr_desc h2
    obtain ⟨a, c, k, b, o, cv, rfl, hc, hc2, ha, hlen, hm, hd, ht⟩ := den_list_inv hv
    have hbl : (bytesD x).length = x.size := by simp [bytesD]
    refine Goes.pure h (v := .string x) ?_ (.lit _) hk
    have hx : strOfNums (x.data.toList.map fun b => (b.toNat : Int)) = x := by
      simp [strOfNums, List.map_map, Function.comp_def]
    rcases Nat.eq_zero_or_pos x.size with h0 | h0
    · have hx0 : x = ByteArray.empty := by
        obtain ⟨⟨l⟩⟩ := x
        have : l = [] := List.eq_nil_of_length_eq_zero h0
        subst this; rfl
      subst hx0
      cases a with
      | none => exact run_convert_bytes_nil w s e' hus hue _ _ t hut
      | some ad =>
        simp [convert, run_underlying hus, run_underlying hut, run_underlying hue, Conv.bytesToString, hbl, loadCells, loadCellsFrom]
    · obtain rfl := ha (by omega)
      have := run_convert_bytes_arg (P := P) w s e' hus hue b o (bytesD x).length c (x.data.toList.map fun b => (b.toNat : Int)) (by simp [bytesD]) (fun i hi => ?_) t hut
      · rw [this, hx]
      · have hi' : i < x.size := by omega
        have he : (bytesD x)[i]? = some [D.int .u8 ((x.data[i]'hi').toNat : Int)] := by
          simp [bytesD, List.getElem?_map, Array.getElem?_toList, Array.getElem?_eq_getElem (show i < x.data.size from hi')]
        have hk1 : k = 1 := (hlen i _ he).symm
        subst hk1
        have h3 := hm i 0 hi (by omega)
        have h4 := den_lit_inv (hd i _ 0 _ he rfl)
        rw [h4] at h3
        have := (h.mem _ _ _ h3).1
        simp only [Nat.mul_one, Nat.add_zero] at this
        rw [this]
        simp [List.getD_eq_getElem?_getD, List.getElem?_map, Array.getElem?_toList, Array.getElem?_eq_getElem (show i < x.data.size from hi')]
  · exact hk.elim

/-! maps from texts -/
def mfind (s : ByteArray) : List (ByteArray × Value) → Option Value
  | [] => none
  | (k, v) :: r => if k = s then some v else mfind s r
def mput (s : ByteArray) (v : Value) : List (ByteArray × Value) → List (ByteArray × Value)
  | [] => [(s, v)]
  | (k, u) :: r => if k = s then (s, v) :: r else (k, u) :: mput s v r
def mview (es : List MapEntry) : List (Value × Value) := es.map fun e => (e.key, e.val)
def mtold (l : List (ByteArray × Value)) : List (Value × Value) := l.map fun p => (Value.string p.1, p.2)

theorem bytes_beq (a b : ByteArray) : (a == b) = decide (a = b) := by rw [beq_toListBytes, toList_beq]

theorem findNow_str (s : ByteArray) : ∀ (es : List MapEntry) (l : List (ByteArray × Value)) (n : Nat), mview es = mtold l →
    ∃ r, Instr.findNow .string (.string s) es n = some r ∧ r.map (·.2) = mfind s l ∧
      (∀ i v, r = some (i, v) → n ≤ i ∧ (∃ e, es[i - n]? = some e ∧ e.key = .string s) ∧ ∀ u : Value, mview (es.modify (i - n) (fun e => { e with key := .string s, val := u })) = mtold (mput s u l)) ∧
      (r = none → ∀ u : Value, mtold (mput s u l) = mtold l ++ [(.string s, u)]) := by
  intro es
  induction es with
  | nil =>
    intro l n h
    cases l with
    | nil => exact ⟨none, rfl, rfl, (by intro i v h; cases h), (by intro _ u; rfl)⟩
    | cons => simp [mview, mtold] at h
  | cons e es ih =>
    intro l n h
    cases l with
    | nil => simp [mview, mtold] at h
    | cons p l =>
      obtain ⟨a, pv⟩ := p
      simp only [mview, mtold, List.map_cons, List.cons.injEq, Prod.mk.injEq] at h
      obtain ⟨⟨ha, hv⟩, hr⟩ := h
      by_cases hs : a = s
      · subst hs
        refine ⟨some (n, e.val), ?_, ?_, ?_, ?_⟩
        · simp [Instr.findNow, Instr.sameNow, ha, bytes_beq]
        · simp [mfind, hv]
        · intro i v h
          injection h with h
          injection h with h1 h2
          subst h1
          refine ⟨Nat.le_refl _, ⟨e, by simp, ha⟩, fun u => ?_⟩
          simp only [Nat.sub_self, List.modify_zero_cons, mview, mtold, mput, if_true, List.map_cons]
          rw [hr]
        · intro h; cases h
      · obtain ⟨r, h1, h2, h3, h4⟩ := ih l (n + 1) hr
        refine ⟨r, ?_, ?_, ?_, ?_⟩
        · have : ¬ (s = a) := fun h => hs h.symm
          simp [Instr.findNow, Instr.sameNow, ha, bytes_beq, this, h1]
        · simp [mfind, hs, h2]
        · intro i v hr'
          obtain ⟨g1, ⟨e', g2, g3⟩, g4⟩ := h3 i v hr'
          refine ⟨by omega, ⟨e', by rw [show i - n = (i - (n + 1)) + 1 from by omega]; simpa using g2, g3⟩, fun u => ?_⟩
          rw [show i - n = (i - (n + 1)) + 1 from by omega]
          have := g4 u
          simp only [mview, mtold, mput, if_neg hs, List.modify_succ_cons, List.map_cons, ha, hv] at this ⊢
          rw [this]
        · intro hr' u
          have := h4 hr' u
          simp only [mtold, mput, if_neg hs, List.map_cons] at this ⊢
          rw [this]; rfl

def KK.mapKey (P : Program) : KK → Bool
  | .map k _ => (kindOf P k).isStr
  | _ => false
def mapElem : KK → TypeId
  | .map _ e => e
  | _ => 0
theorem mapKey_desc {d : TypeDesc} (h : (kkOf d).mapKey P = true) : ∃ k, d = .map k (mapElem (kkOf d)) ∧ P.underlying k = some .string := by
  cases d <;> simp [kkOf, KK.mapKey] at h
  rename_i k e
  refine ⟨k, rfl, ?_⟩
  unfold kindOf at h
  split at h
  · rename_i d hd
    rw [isStr_desc h] at hd; exact hd
  · simp [KK.isStr] at h

theorem run_checkKey_str {k : TypeId} (hu : P.underlying k = some .string) (s : ByteArray) (b : Bool) (n : Nat) (w : World) : (Instr.checkKey b (n + 1) k (.string s)).run P w = .ok () w := by
  unfold Instr.checkKey
  simp [run_underlying hu]

/-- A zero value of one cell. -/
def zone (P : Program) (t : TypeId) : Bool := match (P.info? t).bind (·.zero) with
  | some z => z.oneCell'
  | none => false
def entriesOf (x : D) (σ : Store) : Option (List (ByteArray × Value)) :=
  match x with
  | .lit (.map (some r)) => match σ r with
    | some (.hmap es) => some es
    | _ => none
  | .lit (.map none) => some []
  | _ => none
def hlookup (P : Program) (T E : TI) (x ix : D) (ok : Bool) (σ : Store) (K : D → Prop) : Prop :=
  match entriesOf x σ, ix, E.zero with
  | some es, .lit (.string s), some [z] => T.kk.mapKey P = true ∧ K (if ok then .tup [match mfind s es with | some v => .lit v | none => z, .bool (mfind s es).isSome] else match mfind s es with | some v => .lit v | none => z)
  | _, _, _ => False

theorem lookup_goes (h : Sim w0 M σ w) {t : TypeId} {T E : TI} (hT : ti P t = some T) (hE : ti P (mapElem T.kk) = some E) (hz : zone P (mapElem T.kk) = true) {vx vi : Value} {x ix : D} (hx : Den M vx x) (hi : Den M vi ix) (ok : Bool) {K : D → Store → Prop} (hk : hlookup P T E x ix ok σ (K · σ)) :
    Goes P (Instr.lookup t vx vi ok) w0 M w K := by
  obtain ⟨d, hu, hkk⟩ := kk_desc hT
  unfold hlookup at hk
  split at hk
  · rename_i es s z hes hzz
    obtain ⟨hmk, hk⟩ := hk
    have := den_lit_inv hi; subst this
    rw [hkk] at hmk
    obtain ⟨k, hd, hku⟩ := mapKey_desc hmk
    obtain ⟨ie, de, hie, -, -, -, -, e4, -⟩ := ti_some hE
    rw [hzz] at e4
    cases hz0 : ie.zero with
    | none => rw [hz0] at e4; cases e4
    | some zv =>
    have hone : zv.oneCell' = true := by simpa [zone, hie, hz0] using hz
    rw [hz0] at e4
    simp only [Option.map_some, Option.some.injEq, cells_one hone, List.map_cons, List.map_nil, List.cons.injEq, and_true] at e4
    subst e4
    have hzrun : ∀ w', (zeroValue (mapElem (kkOf d))).run P w' = .ok zv w' := fun w' => run_zeroValue (by rw [← hkk]; exact hie) hz0 w'
    -- what the machine finds
    have key : ∀ (ents : List MapEntry), mview ents = mtold es → (Instr.findKey k (.string s) ents).run P w = .ok (Instr.findNow .string (.string s) ents 0).get! w ∧ ((Instr.findNow .string (.string s) ents 0).get!).map (·.2) = mfind s es := by
      intro ents he
      obtain ⟨r, r1, r2, -, -⟩ := findNow_str s ents es 0 he
      refine ⟨?_, by rw [r1]; exact r2⟩
      simp [Instr.findKey, run_underlying hku, r1]
    have fin : ∀ (ents : Array MapEntry), mview ents.toList = mtold es → (∀ c : Sem Value, c = c → True) →
        ((do Instr.checkKey ents.isEmpty 10000 k (.string s)
             let (v, ok') ← match ← Instr.findKey k (.string s) ents.toList with
               | some (_, v) => pure (v, true)
               | none => pure (← zeroValue (mapElem (kkOf d)), false)
             pure (if ok then .tuple #[v, .bool ok'] else v) : Sem Value).run P w =
          .ok (if ok then .tuple #[(mfind s es).getD zv, .bool (mfind s es).isSome] else (mfind s es).getD zv) w) := by
      intro ents he _
      obtain ⟨k1, k2⟩ := key ents.toList he
      have hck := run_checkKey_str (P := P) hku s ents.isEmpty 9999 w
      simp only [Sem.run_bind, hck, Result.andThen_ok, k1]
      rw [← k2]
      cases hr : (Instr.findNow .string (.string s) ents.toList 0).get! with
      | none => simp [hzrun]
      | some p => simp
    have hden : Den M (if ok then .tuple #[(mfind s es).getD zv, .bool (mfind s es).isSome] else (mfind s es).getD zv) (if ok then .tup [match mfind s es with | some v => .lit v | none => zD1 zv, .bool (mfind s es).isSome] else match mfind s es with | some v => .lit v | none => zD1 zv) := by
      have h1 : Den M ((mfind s es).getD zv) (match mfind s es with | some v => .lit v | none => zD1 zv) := by
        cases mfind s es with
        | none => exact den_zD1 zv
        | some v => exact .lit v
      split
      · refine .tup _ _ rfl (fun i d hd => ?_)
        match i with
        | 0 => simp at hd; subst hd; simpa using h1
        | 1 => simp at hd; subst hd; exact .lit _
        | n + 2 => simp at hd
      · exact h1
    unfold entriesOf at hes
    split at hes
    · rename_i r
      have := den_lit_inv hx; subst this
      split at hes
      · rename_i es' hσ
        injection hes with hes; subst hes
        obtain ⟨ents, clock, hb, hv⟩ := h.maps r _ hσ
        refine Goes.pure h ?_ hden hk
        have hg : (getObj r).run P w = .ok (.map ents clock) w := by simp [getObj, Sem.run, hb]
        rw [hd] at hu
        simp only [Instr.lookup, Sem.run_bind, run_underlying hu, Result.andThen_ok, hg, Sem.run_pure]
        have := fin ents hv (fun _ _ => trivial)
        simp only [Sem.run_bind] at this
        exact this
      · cases hes
    · have := den_lit_inv hx; subst this
      injection hes with hes; subst hes
      refine Goes.pure h ?_ hden hk
      rw [hd] at hu
      simp only [Instr.lookup, Sem.run_bind, run_underlying hu, Result.andThen_ok, Sem.run_pure]
      have := fin #[] rfl (fun _ _ => trivial)
      simp only [Sem.run_bind] at this
      exact this
    · cases hes
  · exact hk.elim

def hmapUpdate (P : Program) (T : TI) (x ix y : D) (σ : Store) (K : Store → Prop) : Prop :=
  match x, ix, y with
  | .lit (.map (some r)), .lit (.string s), .lit v => match σ r with
    | some (.hmap es) => T.kk.mapKey P = true ∧ K (σ.set r (.hmap (mput s v es)))
    | _ => False
  | _, _, _ => False

theorem mapUpdate_goes (h : Sim w0 M σ w) {t : TypeId} {T : TI} (hT : ti P t = some T) {vx vi vy : Value} {x ix y : D} (hx : Den M vx x) (hi : Den M vi ix) (hy : Den M vy y) {K : Store → Prop} (hk : hmapUpdate P T x ix y σ K) :
    ∃ w' σ', (Instr.mapUpdate t vx vi vy).run P w = .ok () w' ∧ Sim w0 M σ' w' ∧ K σ' := by
  obtain ⟨d, hu, hkk⟩ := kk_desc hT
  unfold hmapUpdate at hk
  split at hk
  · rename_i r s v
    have := den_lit_inv hx; subst this
    have := den_lit_inv hi; subst this
    have := den_lit_inv hy; subst this
    split at hk
    · rename_i es hσ
      obtain ⟨hmk, hk⟩ := hk
      rw [hkk] at hmk
      obtain ⟨k, hd, hku⟩ := mapKey_desc hmk
      rw [hd] at hu
      obtain ⟨ents, clock, hb, hv⟩ := h.maps r _ hσ
      have hg : (getObj r).run P w = .ok (.map ents clock) w := by simp [getObj, Sem.run, hb]
      have hset : ∀ o : Obj, (setObj r o).run P w = .ok () { w with heap := w.heap.setIfInBounds r o } := fun o => by simp [setObj, Sem.run, hb]
      have hck := run_checkKey_str (P := P) hku s false 9999 w
      obtain ⟨q, q1, q2, q3, q4⟩ := findNow_str s ents.toList es 0 hv
      have hfk : (Instr.findKey k (.string s) ents.toList).run P w = .ok q w := by simp [Instr.findKey, run_underlying hku, q1]
      have hlt := (Array.getElem?_eq_some_iff.1 hb).1
      have turn : ∀ (ents' : Array MapEntry) (cl : Nat) (es' : List (ByteArray × Value)), mview ents'.toList = mtold es' → Sim w0 M (σ.set r (.hmap es')) { w with heap := w.heap.setIfInBounds r (.map ents' cl) } := by
        intro ents' cl es' he
        refine h.turn r _ ⟨_, hσ⟩ (MLe.refl M) (fun _ _ _ => rfl) rfl rfl rfl (by simp) (fun b hb' => by simp only [Array.getElem?_setIfInBounds]; rw [if_neg (by omega)]) (fun o v e => ?_) (fun _ hh => by cases hh) (fun _ _ _ hh => by cases hh) (fun es'' hh => ?_)
        · have := (h.mem r o v e).1
          simp [World.cell?, hb] at this
        · injection hh with hh; subst hh
          exact ⟨ents', cl, by simp [Array.getElem?_setIfInBounds, hlt], he⟩
      cases hq : q with
      | none =>
        subst hq
        refine ⟨_, _, ?_, turn (ents.push { key := .string s, val := vy, born := clock }) (clock + 1) _ ?_, hk⟩
        · simp only [Instr.mapUpdate, Sem.run_bind, run_underlying hu, Result.andThen_ok, hg, hck, hfk, hset]
        · rw [q4 rfl vy, show mtold es = mview ents.toList from hv.symm]
          simp [mview]
      | some p =>
        obtain ⟨i, pv⟩ := p
        subst hq
        obtain ⟨-, ⟨e', g2, g3⟩, g4⟩ := q3 i pv rfl
        simp only [Nat.sub_zero] at g2 g4
        have hstay : (Instr.keyThatStays (((ents[i]?).map (·.key)).getD (.string s)) (.string s)).run P w = .ok (.string s) w := by
          rw [Array.getElem?_toList] at g2
          simp [g2, g3, Instr.keyThatStays, Instr.sameBits, bytes_beq]
        refine ⟨_, _, ?_, turn (ents.modify i fun e => { e with key := .string s, val := vy }) clock _ ?_, hk⟩
        · simp only [Instr.mapUpdate, Sem.run_bind, run_underlying hu, Result.andThen_ok, hg, hck, hfk, hstay, hset]
        · rw [← g4 vy]
          simp [mview, Array.toList_modify]
    · exact hk.elim
  · exact hk.elim
end Go.HL
