/- HL, part G: new rows, and appending. -/
import Derived.Test.YtdbbbhjajkobaabHLF
set_option linter.unusedVariables false
set_option linter.unusedSimpArgs false
namespace Go.HL
open Go.RowKit
variable {P : Program} {w0 w : World} {M : Mem} {σ : Store}

/-- The first m cells of block b stay as they are from now on. -/
def Mem.pub (M : Mem) (b m : Nat) (cs : Array Value) : Mem := fun x o => if x = b then (if o < m then cs[o]? else none) else M x o
theorem Mem.pub_le {M : Mem} {b m : Nat} {cs : Array Value} (h : ∀ o v, M b o = some v → o < m ∧ cs[o]? = some v) : MLe M (M.pub b m cs) := fun x o v e => by
  unfold Mem.pub
  split
  · rename_i hx; subst hx
    obtain ⟨h1, h2⟩ := h o v e
    rw [if_pos h1, h2]
  · exact e

theorem Sim.alloc_pub (h : Sim w0 M σ w) (cs : Array Value) (t : TypeId) (m : Nat) (hone : ∀ i, i < m → i < cs.size → (cs.getD i undef).oneCell' = true) :
    Sim w0 (M.pub w.heap.size m cs) σ (w.alloc (.cells cs t)) ∧ MLe M (M.pub w.heap.size m cs) := by
  have hle : MLe M (M.pub w.heap.size m cs) := Mem.pub_le (fun o v e => by rw [h.freshM _ (Nat.le_refl _)] at e; cases e)
  have g := h.alloc_garbage (.cells cs t)
  have hne : ∀ b o, σ b = some o → b ≠ w.heap.size := fun b o e => by have := h.lt e; omega
  refine ⟨⟨g.base, g.low, fun b o v e => ?_, fun b ds e => ?_, fun b n c k e => ?_, g.maps⟩, hle⟩
  · unfold Mem.pub at e
    split at e
    · rename_i hb; subst hb
      split at e
      · rename_i ho
        refine ⟨?_, ?_⟩
        · rw [cell_of_row _ _ o cs t (0, 0) (heap_push_at w _)]; exact e
        · obtain ⟨h1, h2⟩ := Array.getElem?_eq_some_iff.1 e
          have := hone o ho h1
          rw [← h2]; simpa [Array.getD, h1] using this
      · cases e
    · exact g.mem b o v e
  · obtain ⟨cs', t', h1, h2, h3, h4, h5⟩ := g.cells b ds e
    refine ⟨cs', t', h1, h2, h3, fun i d hd => (h4 i d hd).mono hle, fun o => ?_⟩
    unfold Mem.pub
    rw [if_neg (hne b _ e)]; exact h5 o
  · obtain ⟨cs', t', h1, h2, h3, h4⟩ := g.spare b n c k e
    refine ⟨cs', t', h1, h2, h3, fun o ho => ?_⟩
    unfold Mem.pub
    rw [if_neg (hne b _ e)]; exact h4 o ho

theorem Sim.add_spare (h : Sim w0 M σ w) (b n c k : Nat) (hb : σ b = none) (hl : w0.heap.size ≤ b) (hs : ∃ cs t, w.heap[b]? = some (.cells cs t (0, 0)) ∧ cs.size = c * k ∧ n ≤ c ∧ ∀ o, n * k ≤ o → M b o = none) :
    Sim w0 M (σ.set b (.spare n c k)) w := by
  have hn : ∀ x o, (σ.set b (.spare n c k)) x = some o → x ≠ b → σ x = some o := fun x o e hne => by rwa [Store.set_ne _ _ _ _ hne] at e
  refine ⟨h.base, fun x o e => ?_, h.mem, fun x ds e => ?_, fun x n' c' k' e => ?_, fun x es e => ?_⟩
  · by_cases hx : x = b
    · subst hx; exact hl
    · exact h.low x o (hn x o e hx)
  · by_cases hx : x = b
    · subst hx; rw [Store.set_same] at e; cases e
    · exact h.cells x ds (hn x _ e hx)
  · by_cases hx : x = b
    · subst hx
      rw [Store.set_same] at e
      injection e with e
      injection e with e1 e2 e3
      subst e1; subst e2; subst e3
      exact hs
    · exact h.spare x n' c' k' (hn x _ e hx)
  · by_cases hx : x = b
    · subst hx; rw [Store.set_same] at e; cases e
    · exact h.maps x es (hn x _ e hx)

/-- Cells in pieces of one size. -/
def chunk : Nat → Nat → List D → List (List D)
  | 0, _, _ => []
  | n + 1, k, ds => ds.take k :: chunk n k (ds.drop k)
theorem chunk_length (n k : Nat) (ds : List D) : (chunk n k ds).length = n := by
  induction n generalizing ds with
  | zero => rfl
  | succ n ih => simp [chunk, ih]
theorem chunk_get (n k : Nat) (ds : List D) (i : Nat) (h : i < n) : (chunk n k ds)[i]? = some ((ds.drop (i * k)).take k) := by
  induction n generalizing ds i with
  | zero => omega
  | succ n ih =>
    cases i with
    | zero => simp [chunk]
    | succ i =>
      simp only [chunk, List.getElem?_cons_succ]
      rw [ih _ i (by omega), List.drop_drop]
      congr 3
      rw [Nat.succ_mul]; omega

/-- Flat cells as elements. -/
theorem den_new_list {b n c k : Nat} {cs : Array Value} {ds : List D} (hp : Pts (M.pub b (n * k) cs) cs ds) (hl : n * k ≤ ds.length) (hnc : n ≤ c) (hc2 : c ≤ 9223372036854775807) (tok : Tok) (es : List (List D)) (hes : es.length = n)
    (hk : ∀ (i : Nat) (e : List D), es[i]? = some e → e.length = k) (he : ∀ (i : Nat) (e : List D) (j : Nat) (d : D), es[i]? = some e → e[j]? = some d → ds[i * k + j]? = some d) (ht : TokOk tok (some ⟨b, 0, none⟩) n c k) :
    Den (M.pub b (n * k) cs) (.slice (some ⟨b, 0, none⟩) n c) (.list es tok) := by
  refine .list _ n c k b 0 es tok (fun i j => cs.getD (i * k + j) undef) hes.symm hnc hc2 (fun _ => rfl) hk (fun i j hi hj => ?_) (fun i e j d h1 h2 => hp.den _ d (he i e j d h1 h2)) ht
  unfold Mem.pub
  have hlt : i * k + j < n * k := by
    calc i * k + j < i * k + k := by omega
      _ = (i + 1) * k := by rw [Nat.succ_mul]
      _ ≤ n * k := Nat.mul_le_mul_right _ hi
  have hs := hp.size
  rw [if_pos rfl, Nat.zero_add, if_pos hlt]
  simp [Array.getD, show i * k + j < cs.size by omega]

theorem chunk_cells (n k : Nat) (ds : List D) (hl : n * k ≤ ds.length) : (∀ (i : Nat) (e : List D), (chunk n k ds)[i]? = some e → e.length = k) ∧ (∀ (i : Nat) (e : List D) (j : Nat) (d : D), (chunk n k ds)[i]? = some e → e[j]? = some d → ds[i * k + j]? = some d) := by
  have hb : ∀ (i : Nat) (e : List D), (chunk n k ds)[i]? = some e → i < n ∧ e = (ds.drop (i * k)).take k := fun i e he => by
    have hi : i < n := by have := (List.getElem?_eq_some_iff.1 he).1; rwa [chunk_length] at this
    rw [chunk_get n k ds i hi] at he
    injection he with he
    exact ⟨hi, he.symm⟩
  refine ⟨fun i e he => ?_, fun i e j d he hd => ?_⟩
  · obtain ⟨hi, rfl⟩ := hb i e he
    have : i * k + k ≤ n * k := by rw [← Nat.succ_mul]; exact Nat.mul_le_mul_right _ hi
    simp; omega
  · obtain ⟨hi, rfl⟩ := hb i e he
    rw [List.getElem?_take] at hd
    split at hd
    · rwa [List.getElem?_drop] at hd
    · cases hd

/-! buildSlice -/
def zrep (n : Nat) (z : List D) : List D := (List.replicate n z).flatten
def hbuildSlice (lm : Bool) (E : TI) (n : Nat) (parts : List (Nat × D)) (σ : Store) (K : D → Store → Prop) : Prop :=
  match E.zero with
  | some z => (n * E.size ≤ 16777216 ∧ n ≤ 16777216) ∧ z.length = E.size ∧ match fillD (fun i => some (i * E.size, E.size)) (zrep n z) parts with
    | some ds => if lm then ∀ b, σ b = none → K (.lit (.slice (some ⟨b, 0, none⟩) n n)) (σ.set b (.cells ds)) else K (.list (chunk n E.size ds) .full) σ
    | none => False
  | none => False

theorem zrep_get (n : Nat) (z : List D) (i : Nat) (h : i < n * z.length) : (zrep n z)[i]? = z[i % z.length]? := by
  induction n generalizing i with
  | zero => simp at h
  | succ n ih =>
    simp only [zrep, List.replicate_succ, List.flatten_cons]
    rw [List.getElem?_append]
    split
    · rename_i hi; rw [Nat.mod_eq_of_lt hi]
    · rename_i hi
      rw [Nat.succ_mul] at h
      have := ih (i - z.length) (by omega)
      rw [zrep] at this
      rw [this, Nat.mod_eq_sub_mod (by omega : i ≥ z.length)]
theorem zrep_length (n : Nat) (z : List D) : (zrep n z).length = n * z.length := by
  induction n with
  | zero => simp [zrep]
  | succ n ih => simp only [zrep, List.replicate_succ, List.flatten_cons, List.length_append]; rw [zrep] at ih; rw [ih, Nat.succ_mul]; omega

theorem pts_zeros {z : Array Value} {zs : List D} (h : Pts M z zs) (n m : Nat) (hm : m = n * zs.length) : Pts M ((Array.range m).map (z[· % z.size]!)) (zrep n zs) := by
  subst hm
  have hs := h.size
  have key : ∀ i, i < n * zs.length → ((Array.range (n * zs.length)).map (z[· % z.size]!)).getD i undef = z.getD (i % z.size) undef := fun i hi => by
    have hpos : 0 < zs.length := by
      rcases Nat.eq_zero_or_pos zs.length with h0 | h0
      · rw [h0] at hi; simp at hi
      · exact h0
    have : i % z.size < z.size := Nat.mod_lt _ (by omega)
    simp [Array.getD, hi, this]
  refine ⟨by simp [zrep_length], fun i hi => ?_, fun i d hd => ?_⟩
  · simp at hi
    rw [key i hi]
    refine h.one _ (Nat.mod_lt _ ?_)
    rcases Nat.eq_zero_or_pos z.size with h0 | h0
    · rw [← hs, h0] at hi; simp at hi
    · exact h0
  · have hi : i < n * zs.length := by have := (List.getElem?_eq_some_iff.1 hd).1; rwa [zrep_length] at this
    rw [key i hi]
    rw [zrep_get n zs i hi] at hd
    rw [hs]
    exact h.den _ d hd

theorem buildSlice_goes (h : Sim w0 M σ w) {t e : TypeId} {T E : TI} (hT : ti P t = some T) (hE : ti P e = some E) (hkk : T.kk = .slice e) (hz : zfit P e = true) (lm : Bool) (n : Nat) (parts : Array (Nat × Value)) (pd : List (Nat × D)) (hl : parts.size = pd.length)
    (hp : ∀ (j i : Nat) (v : Value) (k : Nat) (d : D), parts[j]? = some (i, v) → pd[j]? = some (k, d) → i = k ∧ Den M v d) {K : D → Store → Prop} (hk : hbuildSlice lm E n pd σ K) : Goes P (Instr.buildSlice t n parts) w0 M w K := by
  unfold hbuildSlice at hk
  split at hk
  · rename_i zs hzs
    obtain ⟨⟨hlim, hn0⟩, hzl, hk⟩ := hk
    split at hk
    · rename_i ds hds
      obtain ⟨z, i, hi, hz0, hpz⟩ := pts_zero (M := M) hE hz hzs
      obtain ⟨i', d, hi', hd, e1, e2, -, -, -⟩ := ti_some hE
      rw [hi] at hi'; injection hi' with hi'; subst hi'
      have hu := kk_slice hT hkk
      have hpts0 : Pts M ((Array.range (n * i.size)).map ((if n * i.size = 0 then #[] else z.cells)[· % (if n * i.size = 0 then #[] else z.cells).size]!)) (zrep n zs) := by
        by_cases h0 : n * i.size = 0
        · simp only [h0, if_true]
          have : zrep n zs = [] := List.eq_nil_of_length_eq_zero (by rw [zrep_length, hzl, e2]; exact h0)
          rw [this]
          exact ⟨by simp, fun j hj => by simp at hj, fun j d hd => by simp at hd⟩
        · simp only [h0, if_false]
          exact pts_zeros hpz n _ (by rw [hzl, e2])
      rw [e2] at hds
      obtain ⟨cs', f1, f2⟩ := fill_pts (M := M) _ parts.toList pd _ (zrep n zs) ds hpts0 (by simpa using hl) (fun j i v k d h1 h2 => hp j i v k d (by simpa using h1) h2) hds
      have hdl : ds.length = n * i.size := by
        have : ∀ (pd : List (Nat × D)) (a b : List D), fillD (fun j => some (j * i.size, i.size)) a pd = some b → b.length = a.length := by
          intro pd
          induction pd with
          | nil => intro a b hh; simp [fillD] at hh; rw [hh]
          | cons q pd ih =>
            intro a b hh
            obtain ⟨j, x⟩ := q
            simp only [fillD] at hh
            split at hh
            · rename_i hc; rw [ih _ _ hh, spl_length _ _ _ (by omega)]
            · cases hh
        rw [this pd _ _ hds, zrep_length, hzl, e2]
      have hrun : (Instr.buildSlice t n parts).run P w = .ok (.slice (some ⟨w.heap.size, 0, none⟩) n n) (w.alloc (.cells cs' e)) := by
        have hlim' : ¬ (n * i.size > 2 ^ 24) := by rw [← e2]; omega
        simp only [Instr.buildSlice, Sem.run_bind, run_underlying hu, Result.andThen_ok, run_sizeOf hi]
        rw [if_neg hlim']
        by_cases h0 : n * i.size = 0
        · rw [if_pos h0] at f1 ⊢
          simp only [Sem.run_bind, Sem.run_pure, Result.andThen_ok]
          rw [f1]
          simp only [Sem.run_bind, newRow, run_newObj, Result.andThen_ok, Sem.run_pure, World.alloc_eq]
        · rw [if_neg h0] at f1 ⊢
          simp only [Sem.run_bind, Sem.run_pure, Result.andThen_ok, run_zeroValue hi hz0]
          rw [f1]
          simp only [Sem.run_bind, newRow, run_newObj, Result.andThen_ok, Sem.run_pure, World.alloc_eq]
      split at hk
      · exact ⟨_, _, M, _, _, hrun, MLe.refl M, h.alloc_cells cs' e ds f2.size f2.one f2.den, .lit _, hk _ h.fresh⟩
      · rw [e2] at hk
        obtain ⟨g1, g2⟩ := h.alloc_pub cs' e (n * i.size) (fun j _ hj => f2.one j hj)
        obtain ⟨c1, c2⟩ := chunk_cells n i.size ds (by omega)
        have hn63 : n ≤ 9223372036854775807 := by omega
        exact ⟨_, _, _, _, _, hrun, g2, g1, den_new_list (f2.mono g2) (by omega) (Nat.le_refl n) hn63 .full _ (chunk_length _ _ _) c1 c2 rfl, hk⟩
    · exact hk.elim
  · exact hk.elim

/-! append -/
def bytesD (s : ByteArray) : List (List D) := s.data.toList.map fun b => [D.int .u8 (b.toNat : Int)]
/-- The elements that are appended. -/
def srcE (k : Nat) (x : D) (σ : Store) : Option (List (List D)) :=
  match x with
  | .list xs _ => some xs
  | .lit (.slice (some ⟨b, o, none⟩) m _) => match σ b with
    | some (.cells ds) => if o + m * k ≤ ds.length then some (chunk m k (ds.drop o)) else none
    | _ => none
  | .lit (.string s) => some (bytesD s)
  | _ => none

theorem flatten_get {k : Nat} (xs : List (List D)) (h : ∀ e ∈ xs, e.length = k) : xs.flatten.length = xs.length * k ∧ ∀ (i : Nat) (e : List D) (j : Nat), xs[i]? = some e → j < k → xs.flatten[i * k + j]? = e[j]? := by
  induction xs with
  | nil => simp
  | cons x xs ih =>
    obtain ⟨h1, h2⟩ := ih (fun e he => h e (by simp [he]))
    have hx := h x (by simp)
    refine ⟨by simp [h1, hx, Nat.succ_mul]; omega, fun i e j he hj => ?_⟩
    simp only [List.flatten_cons]
    cases i with
    | zero => simp at he; subst he; rw [Nat.zero_mul, Nat.zero_add, List.getElem?_append_left (by omega)]
    | succ i =>
      simp at he
      rw [List.getElem?_append_right (by rw [hx, Nat.succ_mul]; omega), hx, show (i + 1) * k + j - k = i * k + j from by rw [Nat.succ_mul]; omega]
      exact h2 i e j he hj

theorem chunk_flatten (n k : Nat) (ds : List D) (h : n * k ≤ ds.length) : (chunk n k ds).flatten = ds.take (n * k) := by
  induction n generalizing ds with
  | zero => simp [chunk]
  | succ n ih =>
    rw [Nat.succ_mul] at h
    simp only [chunk, List.flatten_cons]
    rw [ih _ (by simp; omega), Nat.succ_mul, Nat.add_comm, List.take_add]

/-- What is appended, as the machine reads it. -/
theorem src_reads (h : Sim w0 M σ w) {v : Value} {x : D} (hv : Den M v x) {k : Nat} {xs : List (List D)} (hs : srcE k x σ = some xs) (hk : SizedAs x k) (hk1 : ∀ s, x = .str s → k = 1) (hpos : 0 < k) :
    (Builtin.lenOf v).run P w = .ok xs.length w ∧ (∀ e ∈ xs, e.length = k) ∧ ∃ news : Array Value, (Builtin.firstCells k xs.length v).run P w = .ok news w ∧ Pts M news xs.flatten := by
  unfold srcE at hs
  split at hs
  · rename_i xs' tok
    injection hs with hs; subst hs
    obtain ⟨a, c, k', b, o, cv, rfl, hc, hc2, ha, hlen, hm, hd, ht⟩ := den_list_inv hv
    obtain ⟨f1, f2⟩ := flatten_get xs' hk
    refine ⟨by simp [Builtin.lenOf], hk, ?_⟩
    rcases Nat.eq_zero_or_pos xs'.length with h0 | h0
    · have : xs' = [] := List.eq_nil_of_length_eq_zero h0
      subst this
      refine ⟨#[], ?_, by simp, by intro i hi; simp at hi, by intro i d hd; simp at hd⟩
      cases a <;> simp [Builtin.firstCells, loadCells, loadCellsFrom]
    · obtain rfl := ha h0
      have hk' : k' = k := by rw [← hlen 0 _ (List.getElem?_eq_getElem h0)]; exact hk _ (List.getElem_mem h0)
      subst hk'
      have hh : Holds M w b o xs'.flatten := by
        refine ⟨fun p => cv (p / k') (p % k'), fun p hp => ?_⟩
        rw [f1] at hp
        have hq : p / k' < xs'.length := Nat.div_lt_of_lt_mul (by rw [Nat.mul_comm]; exact hp)
        have hr : p % k' < k' := Nat.mod_lt _ hpos
        have hM := hm _ _ hq hr
        have hpe : p / k' * k' + p % k' = p := by rw [Nat.mul_comm]; exact Nat.div_add_mod p k'
        rw [Nat.add_assoc, hpe] at hM
        obtain ⟨m1, m2⟩ := h.mem _ _ _ hM
        refine ⟨m1, m2, fun d hd' => ?_⟩
        have he := List.getElem?_eq_getElem hq
        have := f2 _ _ _ he hr
        rw [hpe] at this
        rw [this] at hd'
        exact hd _ _ _ d he hd'
      obtain ⟨vs, l1, l2, l3, l4⟩ := hh.loadCells (P := P)
      rw [f1] at l1
      exact ⟨vs, by simpa [Builtin.firstCells] using l1, l2, l3, l4⟩
  · rename_i b o m c
    have := den_lit_inv hv; subst this
    split at hs
    · rename_i ds e
      split at hs
      · rename_i hfit
        injection hs with hs; subst hs
        obtain ⟨c1, c2⟩ := chunk_cells m k (ds.drop o) (by simp; omega)
        have hlk : ∀ e ∈ chunk m k (ds.drop o), e.length = k := fun e he => by
          obtain ⟨i, hi, rfl⟩ := List.getElem_of_mem he
          exact c1 i _ (List.getElem?_eq_getElem hi)
        refine ⟨by simp [Builtin.lenOf, chunk_length], hlk, ?_⟩
        rw [chunk_flatten _ _ _ (by simp; omega), chunk_length]
        have hh := ((holds_cells h e).drop o).take (m * k)
        rw [Nat.zero_add] at hh
        obtain ⟨vs, l1, l2, l3, l4⟩ := hh.loadCells (P := P)
        have : ((ds.drop o).take (m * k)).length = m * k := by simp; omega
        rw [this] at l1
        exact ⟨vs, by simpa [Builtin.firstCells] using l1, l2, l3, l4⟩
      · cases hs
    · cases hs
  · rename_i s
    have := den_lit_inv hv; subst this
    injection hs with hs; subst hs
    obtain rfl := hk1 s rfl
    have hl : (bytesD s).length = s.size := by simp [bytesD]
    have hfl : (bytesD s).flatten = s.data.toList.map fun b => D.int .u8 (b.toNat : Int) := by
      simp [bytesD, List.flatten_eq_flatMap, List.flatMap_map]
      rw [List.map_eq_flatMap]
    refine ⟨by simp [Builtin.lenOf, hl], fun e he => ?_, (s.extract 0 s.size).data.map (fun b => Value.int .u8 b.toNat), ?_, ?_⟩
    · obtain ⟨b, -, rfl⟩ := List.mem_map.1 he; rfl
    · rw [hl]; simp [Builtin.firstCells]
    · rw [hfl]
      have hx : s.extract 0 s.size = s := by simp
      rw [hx]
      refine ⟨by simp, fun i hi => ?_, fun i d hd => ?_⟩
      · simp at hi
        simp [Array.getD, hi, Value.oneCell']
      · rw [List.getElem?_map] at hd
        obtain ⟨y, hy, rfl⟩ := Option.map_eq_some_iff.1 hd
        rw [Array.getElem?_toList] at hy
        obtain ⟨y1, y2⟩ := Array.getElem?_eq_some_iff.1 hy
        have : ((s.data.map fun b => Value.int .u8 (b.toNat : Int)).getD i undef) = .int .u8 (y.toNat : Int) := by
          have y3 : i < s.size := y1
          simp [Array.getD, y3, y2]
        rw [this]; exact .lit _
  · cases hs

def tokList (tok : Tok) : Bool := match tok with
  | .nil | .full => true
  | _ => false
def happend (lm : Bool) (E : TI) (a x : D) (σ : Store) (K : D → Store → Prop) : Prop :=
  match srcE E.size x σ with
  | none => False
  | some xs =>
    0 < E.size ∧ match a with
    | .list es tok => ((es.length + xs.length) * E.bytes ≤ 140737488355328 ∧ es.length + xs.length ≤ 9223372036854775807) ∧
      (if lm then tokList tok = true ∧ (xs = [] → K (.list es tok) σ) ∧ (xs ≠ [] → ∀ z, E.zero = some z → ∀ b c, σ b = none → es.length + xs.length ≤ c → c ≤ 9223372036854775807 →
          K (.lit (.slice (some ⟨b, 0, none⟩) (es.length + xs.length) c)) (σ.set b (.cells (es.flatten ++ xs.flatten ++ zrep (c - (es.length + xs.length)) z))))
      else match tok with
        | .nil => (xs = [] → K (.list es .nil) σ) ∧ (xs ≠ [] → ∀ b c, σ b = none → es.length + xs.length ≤ c → K (.list (es ++ xs) (.own b c E.size)) (σ.set b (.spare (es.length + xs.length) c E.size)))
        | .full => (xs = [] → K (.list es .full) σ) ∧ (xs ≠ [] → ∀ b c, σ b = none → es.length + xs.length ≤ c → K (.list (es ++ xs) (.own b c E.size)) (σ.set b (.spare (es.length + xs.length) c E.size)))
        | .own b c k => (σ b = some (.spare es.length c k) ∧ k = E.size) ∧
            (es.length + xs.length ≤ c → K (.list (es ++ xs) (.own b c k)) (σ.set b (.spare (es.length + xs.length) c k))) ∧
            (c < es.length + xs.length → ∀ b' c', σ b' = none → es.length + xs.length ≤ c' → K (.list (es ++ xs) (.own b' c' k)) (σ.set b' (.spare (es.length + xs.length) c' k)))
        | .ro => False)
    | .lit (.slice (some ⟨b, o, none⟩) n c) => match σ b with
      | some (.cells ds) => (n ≤ c ∧ o + c * E.size ≤ ds.length ∧ (n + xs.length) * E.bytes ≤ 140737488355328 ∧ n + xs.length ≤ 9223372036854775807) ∧
          (n + xs.length ≤ c → K (.lit (.slice (some ⟨b, o, none⟩) (n + xs.length) c)) (σ.set b (.cells (spl ds (o + n * E.size) xs.flatten)))) ∧
          (c < n + xs.length → ∀ z, E.zero = some z → ∀ b' c', σ b' = none → n + xs.length ≤ c' → c' ≤ 9223372036854775807 →
            K (.lit (.slice (some ⟨b', 0, none⟩) (n + xs.length) c')) (σ.set b' (.cells ((ds.drop o).take (n * E.size) ++ xs.flatten ++ zrep (c' - (n + xs.length)) z))))
      | _ => False
    | _ => False

theorem run_app_room {t u e e2 : TypeId} {i : TypeInfo} (ht : P.underlying t = some (.slice e)) (hu : P.underlying u = some (.slice e2) ∨ P.underlying u = some .string) (hi : P.info? e = some i) (base : Option Addr) (n c m : Nat) (x : Value) (ty : TypeId)
    (hl : (Builtin.lenOf x).run P w = .ok m w) (news : Array Value) (hf : (Builtin.firstCells i.size m x).run P w = .ok news w) (hroom : n + m ≤ c) {w' : World}
    (hst : (match base with | some a => storeCells (a.add (n * i.size)) news.toList | none => pure ()).run P w = .ok () w') :
    (Builtin.append_ #[t, u] ty #[.slice base n c, x]).run P w = .ok (.slice base (n + m) c) w' := by
  cases base with
  | none =>
    simp at hst; subst hst
    rcases hu with hu | hu <;> simp [Builtin.append_, run_underlying ht, run_underlying hu, run_sizeOf hi, hl, hf, hroom]
  | some a =>
    simp only at hst
    rcases hu with hu | hu <;> simp [Builtin.append_, run_underlying ht, run_underlying hu, run_sizeOf hi, hl, hf, hroom, hst]

theorem run_app_grow {t u e e2 : TypeId} {i : TypeInfo} {z : Value} (ht : P.underlying t = some (.slice e)) (hu : P.underlying u = some (.slice e2) ∨ P.underlying u = some .string) (hi : P.info? e = some i) (hz : i.zero = some z) (base : Option Addr) (n c m : Nat) (x : Value) (ty : TypeId)
    (hl : (Builtin.lenOf x).run P w = .ok m w) (news olds : Array Value) (hfx : (Builtin.firstCells i.size m x).run P w.drew = .ok news w.drew) (hfs : (Builtin.firstCells i.size n (.slice base n c)).run P w.drew = .ok olds w.drew) (hgrow : c < n + m)
    (h63 : n + m ≤ 9223372036854775807) (hb : (n + m) * i.bytes ≤ 140737488355328) :
    (Builtin.append_ #[t, u] ty #[.slice base n c, x]).run P w = .ok (.slice (some ⟨w.heap.size, 0, none⟩) (n + m) (grownCap w (n + m) c e))
      (w.drew.alloc (.cells (olds ++ news ++ Builtin.zeroCells z.cells (grownCap w (n + m) c e - (n + m))) e)) := by
  have hfit := growslice_fits hgrow hb
  have hn : ¬ (n + m ≤ c) := by omega
  have h63' : ¬ (9223372036854775807 < ((n : Int) + (m : Int))) := by omega
  have h48' : ¬ (281474976710656 < Builtin.nextslicecap (n + m) c * i.bytes) := by omega
  rcases hu with hu | hu <;>
  simp [Builtin.append_, run_underlying ht, run_underlying hu, run_sizeOf hi, typeInfo, run_zeroValue hi hz, hi, hl, hn, h63', h48', Question.forced, hfx, hfs, newRow, grownCap]
end Go.HL
