/- HL, part J: lengths, makes, clears, copies. -/
import Derived.Test.YtdbbbhjajkobaabHLI
set_option linter.unusedVariables false
set_option linter.unusedSimpArgs false
namespace Go.HL
open Go.RowKit
variable {P : Program} {w0 w : World} {M : Mem} {σ : Store}

/-! len, cap -/
def hlen (T : TI) (d : D) (σ : Store) (K : D → Prop) : Prop :=
  match d with
  | .list es _ => T.kk.isSlice = true ∧ K (.int .i64 es.length)
  | .lit (.slice _ n _) => T.kk.isSlice = true ∧ K (.int .i64 n)
  | .lit (.string s) => T.kk.isStr = true ∧ K (.int .i64 s.size)
  | .lit (.map r) => match entriesOf d σ with
    | some es => (match T.kk with | .map _ _ => True | _ => False) ∧ K (.int .i64 es.length)
    | none => False
  | _ => False

theorem isSlice_desc {d : TypeDesc} (h : (kkOf d).isSlice = true) : ∃ e, d = .slice e := by cases d <;> simp [kkOf, KK.isSlice] at h; exact ⟨_, rfl⟩

theorem len_goes (h : Sim w0 M σ w) {t : TypeId} {T : TI} (hT : ti P t = some T) (ty : TypeId) {v : Value} {d : D} (hv : Den M v d) {K : D → Store → Prop} (hk : hlen T d σ (K · σ)) : Goes P (Builtin.len_ #[t] ty #[v]) w0 M w K := by
  obtain ⟨dd, hu, hkk⟩ := kk_desc hT
  unfold hlen at hk
  split at hk
  · obtain ⟨a, c, k, b, o, cv, rfl, -⟩ := den_list_inv hv
    refine Goes.pure h ?_ (.lit _) hk.2
    have := hk.1; rw [hkk] at this
    obtain ⟨e, rfl⟩ := isSlice_desc this
    simp [Builtin.len_, run_underlying hu, goInt]
  · have := den_lit_inv hv; subst this
    refine Goes.pure h ?_ (.lit _) hk.2
    have := hk.1; rw [hkk] at this
    obtain ⟨e, rfl⟩ := isSlice_desc this
    simp [Builtin.len_, run_underlying hu, goInt]
  · have := den_lit_inv hv; subst this
    refine Goes.pure h ?_ (.lit _) hk.2
    have := hk.1; rw [hkk] at this
    obtain rfl := isStr_desc this
    simp [Builtin.len_, run_underlying hu, goInt]
  · rename_i r
    have := den_lit_inv hv; subst this
    split at hk
    · rename_i es hes
      obtain ⟨h1, hk⟩ := hk
      rw [hkk] at h1
      cases dd <;> simp [kkOf] at h1
      refine Goes.pure h ?_ (.lit _) hk
      unfold entriesOf at hes
      split at hes
      · rename_i r' hr'
        injection hr' with hr'; injection hr' with hr'; subst hr'
        split at hes
        · rename_i es' hσ
          injection hes with hes; subst hes
          obtain ⟨ents, clock, hb, hv'⟩ := h.maps r' _ hσ
          have hg : (getObj r').run P w = .ok (.map ents clock) w := by simp [getObj, Sem.run, hb]
          have hl : ents.size = es'.length := by have := congrArg List.length hv'; simpa using this
          simp [Builtin.len_, run_underlying hu, hg, goInt, hl]
        · cases hes
      · rename_i hr'
        injection hr' with hr'; injection hr' with hr'; subst hr'
        injection hes with hes; subst hes
        simp [Builtin.len_, run_underlying hu, goInt]
      · cases hes
    · exact hk.elim
  · exact hk.elim

/-! min, max of numbers -/
def hminmax (mx : Bool) : List D → (D → Prop) → Prop
  | [.lit (.int k a), .lit (.int k' b)], K => K (.int k (if mx then (if b > a then b else a) else (if b < a then b else a)))
  | _, _ => False
theorem min_goes (h : Sim w0 M σ w) (ts : Array TypeId) (ty : TypeId) (vs : Array Value) (ds : List D) (hl : vs.size = ds.length) (hd : ∀ (i : Nat) (d : D), ds[i]? = some d → Den M (vs.getD i undef) d) {K : D → Store → Prop} (hk : hminmax false ds (K · σ)) :
    Goes P (Builtin.min_ ts ty vs) w0 M w K := by
  unfold hminmax at hk
  split at hk
  · rename_i k a k' b
    have e0 := den_lit_inv (hd 0 _ rfl)
    have e1 := den_lit_inv (hd 1 _ rfl)
    have : vs = #[.int k a, .int k' b] := by
      apply Array.ext' ; apply List.ext_getElem? ; intro i
      match i with
      | 0 => simp at hl; simp [Array.getD, show 0 < vs.size by omega] at e0; simp [e0, show 0 < vs.size by omega]
      | 1 => simp at hl; simp [Array.getD, show 1 < vs.size by omega] at e1; simp [e1, show 1 < vs.size by omega]
      | n + 2 => simp at hl; simp; omega
    subst this
    exact Goes.pure h (by simp [Builtin.min_, Builtin.min2]) (.lit _) hk
  · exact hk.elim
theorem max_goes (h : Sim w0 M σ w) (ts : Array TypeId) (ty : TypeId) (vs : Array Value) (ds : List D) (hl : vs.size = ds.length) (hd : ∀ (i : Nat) (d : D), ds[i]? = some d → Den M (vs.getD i undef) d) {K : D → Store → Prop} (hk : hminmax true ds (K · σ)) :
    Goes P (Builtin.max_ ts ty vs) w0 M w K := by
  unfold hminmax at hk
  split at hk
  · rename_i k a k' b
    have e0 := den_lit_inv (hd 0 _ rfl)
    have e1 := den_lit_inv (hd 1 _ rfl)
    have : vs = #[.int k a, .int k' b] := by
      apply Array.ext' ; apply List.ext_getElem? ; intro i
      match i with
      | 0 => simp at hl; simp [Array.getD, show 0 < vs.size by omega] at e0; simp [e0, show 0 < vs.size by omega]
      | 1 => simp at hl; simp [Array.getD, show 1 < vs.size by omega] at e1; simp [e1, show 1 < vs.size by omega]
      | n + 2 => simp at hl; simp; omega
    subst this
    exact Goes.pure h (by simp [Builtin.max_, Builtin.max2]) (.lit _) hk
  · exact hk.elim

/-! make([]T, n) -/
def hmake (T E : TI) (l c : D) (σ : Store) (K : D → Store → Prop) : Prop :=
  match l, c, E.zero with
  | .lit (.int .i64 n), .lit (.int .i64 m), some z => (n = m ∧ 0 ≤ n ∧ E.bytes * n ≤ 140737488355328 ∧ n ≤ 9223372036854775807 ∧ z.length = E.size) ∧ ∀ b, σ b = none → K (.lit (.slice (some ⟨b, 0, none⟩) n.toNat n.toNat)) (σ.set b (.cells (zrep n.toNat z)))
  | _, _, _ => False
theorem make_goes (h : Sim w0 M σ w) {t e : TypeId} {T E : TI} (hT : ti P t = some T) (hE : ti P e = some E) (hkk : T.kk = .slice e) (hz : zfit P e = true) {vl vc : Value} {l c : D} (hl : Den M vl l) (hc : Den M vc c) {K : D → Store → Prop} (hk : hmake T E l c σ K) :
    Goes P (Instr.makeSlice t vl vc) w0 M w K := by
  have hu := kk_slice hT hkk
  obtain ⟨i, d, hi, hd, e1, e2, e3, -, -⟩ := ti_some hE
  unfold hmake at hk
  split at hk
  · rename_i n m zs hzs
    obtain ⟨⟨rfl, h0, h1, h2, h3⟩, hk⟩ := hk
    have := den_lit_inv hl; subst this
    have := den_lit_inv hc; subst this
    obtain ⟨q, rfl⟩ := Int.eq_ofNat_of_zero_le h0
    obtain ⟨z, zs', hz1, hz2, hz3, hz4⟩ := zero_pts (M := M) hE hz hi
    rw [hzs] at hz2; injection hz2 with hz2; subst hz2
    rw [e3] at h1
    have hrun := run_make (P := P) w t e i z hu hi hz1 .i64 .i64 q q (by omega) (Int.le_refl _) (by omega) (by omega)
    have hpts : Pts M (madeCells z.cells ((q : Int).toNat * i.size)) (zrep q zs) := pts_zeros hz3 q _ (by rw [h3, e2]; simp)
    exact ⟨_, _, M, _, _, hrun, MLe.refl M, h.alloc_cells _ e _ hpts.size hpts.one hpts.den, .lit _, by simpa using hk _ h.fresh⟩
  · exact hk.elim

/-! clear, copy -/
theorem write_pts (h : Sim w0 M σ w) {b : Nat} {ds : List D} (e : σ b = some (.cells ds)) (o : Nat) {vs : Array Value} {cs : List D} (hp : Pts M vs cs) (hfit : o + cs.length ≤ ds.length) :
    ∃ w', (storeCells ⟨b, o, none⟩ vs.toList).run P w = .ok () w' ∧ Sim w0 M (σ.set b (.cells (spl ds o cs))) w' :=
  h.write (P := P) e o vs.toList cs (by simpa using hp.size) hfit (fun v hv => by
    obtain ⟨j, hj, rfl⟩ := List.getElem_of_mem hv
    have hj' : j < vs.size := by simpa using hj
    have := hp.one j hj'
    simpa [Array.getD, hj'] using this) (fun j y hy => by
    have := hp.den j y hy
    simpa [List.getD_eq_getElem?_getD, Array.getD_eq_getD_getElem?] using this)

def hclear (E : TI) (d : D) (σ : Store) (K : D → Store → Prop) : Prop :=
  match d, E.zero with
  | .lit (.slice (some ⟨b, o, none⟩) n _), some z => if n = 0 then K (.tup []) σ else match σ b with
    | some (.cells ds) => (z.length = E.size ∧ o + n * E.size ≤ ds.length) ∧ K (.tup []) (σ.set b (.cells (spl ds o (zrep n z))))
    | _ => False
  | .list [] _, _ => K (.tup []) σ
  | _, _ => False
theorem clear_goes (h : Sim w0 M σ w) {t e : TypeId} {T E : TI} (hT : ti P t = some T) (hE : ti P e = some E) (hkk : T.kk = .slice e) (hz : zfit P e = true) (ty : TypeId) {v : Value} {d : D} (hv : Den M v d) {K : D → Store → Prop} (hk : hclear E d σ K) :
    Goes P (Builtin.clear_ #[t] ty #[v]) w0 M w K := by
  have hu := kk_slice hT hkk
  obtain ⟨i, dd, hi, hd, e1, e2, e3, -, -⟩ := ti_some hE
  have hnil : Den M (.tuple #[]) (.tup []) := .tup _ _ rfl (by intro i d hd; simp at hd)
  unfold hclear at hk
  split at hk
  · rename_i b o n c zs hzs
    have := den_lit_inv hv; subst this
    obtain ⟨z, zs', hz1, hz2, hz3, hz4⟩ := zero_pts (M := M) hE hz hi
    rw [hzs] at hz2; injection hz2 with hz2; subst hz2
    split at hk
    · rename_i hn; subst hn
      exact Goes.pure h (by simp [Builtin.clear_, run_underlying hu]) hnil hk
    · rename_i hn
      split at hk
      · rename_i ds hσ
        obtain ⟨⟨h1, h2⟩, hk⟩ := hk
        obtain ⟨w', r1, r2⟩ := write_pts (P := P) h hσ o (pts_zeros hz3 n (n * z.cells.size) (by rw [hz4])) (by rw [zrep_length, h1]; exact h2)
        refine ⟨_, w', M, _, _, ?_, MLe.refl M, r2, hnil, hk⟩
        obtain ⟨m, rfl⟩ : ∃ m, n = m + 1 := ⟨n - 1, by omega⟩
        simp only [Builtin.clear_, List.getElem?_toArray, List.getElem?_cons_zero, Sem.run_bind, run_underlying hu, Result.andThen_ok, run_zeroValue hi hz1, Builtin.zeroCells]
        simp only [Array.toList_map, Array.toList_range] at r1
        simp [r1]
      · exact hk.elim
  · obtain ⟨a, c, k, b, o, cv, rfl, -⟩ := den_list_inv hv
    refine Goes.pure h ?_ hnil hk
    cases a <;> simp [Builtin.clear_, run_underlying hu]
  · exact hk.elim

theorem take_flatten {k : Nat} (xs : List (List D)) (h : ∀ e ∈ xs, e.length = k) (m : Nat) (hm : m ≤ xs.length) : (xs.take m).flatten = xs.flatten.take (m * k) := by
  induction xs generalizing m with
  | nil => simp at hm; subst hm; simp
  | cons x xs ih =>
    cases m with
    | zero => simp
    | succ m =>
      have hx := h x (by simp)
      simp only [List.take_succ_cons, List.flatten_cons]
      rw [ih (fun e he => h e (by simp [he])) m (by simpa using hm), Nat.succ_mul, Nat.add_comm, ← hx, List.take_length_add_append]

/-- Only a front of what is handed over is read. -/
theorem src_front (h : Sim w0 M σ w) {v : Value} {x : D} (hv : Den M v x) {k : Nat} {xs : List (List D)} (hs : srcE k x σ = some xs) (hk : SizedAs x k) (hk1 : ∀ s, x = .str s → k = 1) (hpos : 0 < k) (m : Nat) (hm0 : m ≤ xs.length) :
    ∃ news : Array Value, (Builtin.firstCells k m v).run P w = .ok news w ∧ Pts M news (xs.take m).flatten := by
  obtain ⟨l1, l2, news, l3, l4⟩ := src_reads (P := P) h hv hs hk hk1 hpos
  obtain ⟨x1, -⟩ := flatten_get xs l2
  rw [take_flatten xs l2 m hm0]
  have hmk : m * k ≤ xs.length * k := Nat.mul_le_mul_right _ hm0
  have load : ∀ b o, Holds M w b o xs.flatten → ∃ news : Array Value, (loadCells ⟨b, o, none⟩ (m * k)).run P w = .ok news w ∧ Pts M news (xs.flatten.take (m * k)) := fun b o hh => by
    obtain ⟨vs, q1, q2, q3, q4⟩ := (hh.take (m * k)).loadCells (P := P)
    have : (xs.flatten.take (m * k)).length = m * k := by rw [List.length_take, x1]; omega
    rw [this] at q1
    exact ⟨vs, q1, q2, q3, q4⟩
  unfold srcE at hs
  split at hs
  · rename_i xs' tok
    injection hs with hs; subst hs
    rcases Nat.eq_zero_or_pos xs'.length with h0 | h0
    · obtain ⟨a, c, k', b, o, cv, rfl, -⟩ := den_list_inv hv
      obtain rfl : m = 0 := by omega
      refine ⟨#[], ?_, by simp, by intro i hi; simp at hi, by intro i d hd; simp at hd⟩
      cases a <;> simp [Builtin.firstCells, loadCells, loadCellsFrom]
    · obtain ⟨a, c, k', b, o, cv, rfl, hc, hc2, ha, hlen, hm, hd, ht⟩ := den_list_inv hv
      obtain rfl := ha h0
      have hk' : k' = k := by rw [← hlen 0 _ (List.getElem?_eq_getElem h0)]; exact hk _ (List.getElem_mem h0)
      subst hk'
      obtain ⟨f1, f2⟩ := flatten_get xs' hk
      have hh : Holds M w b o xs'.flatten := by
        refine ⟨fun p => cv (p / k') (p % k'), fun p hp => ?_⟩
        rw [f1] at hp
        have hq : p / k' < xs'.length := Nat.div_lt_of_lt_mul (by rw [Nat.mul_comm]; exact hp)
        have hr : p % k' < k' := Nat.mod_lt _ hpos
        have hM := hm _ _ hq hr
        have hpe : p / k' * k' + p % k' = p := by rw [Nat.mul_comm]; exact Nat.div_add_mod p k'
        rw [Nat.add_assoc, hpe] at hM
        obtain ⟨m1, m2⟩ := h.mem _ _ _ hM
        refine ⟨m1, m2, fun d hd' => ?_⟩
        have he := List.getElem?_eq_getElem hq
        have := f2 _ _ _ he hr
        rw [hpe] at this
        rw [this] at hd'
        exact hd _ _ _ d he hd'
      obtain ⟨news, q1, q2⟩ := load b o hh
      exact ⟨news, by simpa [Builtin.firstCells] using q1, q2⟩
  · rename_i b o m' c
    have := den_lit_inv hv; subst this
    split at hs
    · rename_i ds e
      split at hs
      · rename_i hfit
        injection hs with hs; subst hs
        have hh := ((holds_cells h e).drop o).take (m' * k)
        rw [Nat.zero_add, ← chunk_flatten _ _ _ (by simp; omega)] at hh
        obtain ⟨news, q1, q2⟩ := load b o hh
        exact ⟨news, by simpa [Builtin.firstCells] using q1, q2⟩
      · cases hs
    · cases hs
  · rename_i s
    have := den_lit_inv hv; subst this
    injection hs with hs; subst hs
    obtain rfl := hk1 s rfl
    have hfl : (bytesD s).flatten = s.data.toList.map fun b => D.int .u8 (b.toNat : Int) := by
      simp [bytesD, List.flatten_eq_flatMap, List.flatMap_map]
      rw [List.map_eq_flatMap]
    rw [hfl]
    have hms : m ≤ s.size := by simpa [bytesD] using hm0
    refine ⟨(s.extract 0 m).data.map (fun b => Value.int .u8 b.toNat), by simp [Builtin.firstCells], ?_⟩
    refine ⟨by simp, fun i hi => ?_, fun i d hd => ?_⟩
    · simp at hi
      simp [Array.getD, hi, Value.oneCell']
    · rw [List.getElem?_take] at hd
      split at hd
      · rename_i hlt
        rw [List.getElem?_map] at hd
        obtain ⟨y, hy, rfl⟩ := Option.map_eq_some_iff.1 hd
        rw [Array.getElem?_toList] at hy
        obtain ⟨y1, y2⟩ := Array.getElem?_eq_some_iff.1 hy
        have y3 : i < s.size := y1
        have : (((s.extract 0 m).data.map fun b => Value.int .u8 (b.toNat : Int)).getD i undef) = .int .u8 (y.toNat : Int) := by
          have h1 : (s.extract 0 m).data = s.data.extract 0 m := by simp
          rw [h1]
          have h2 : i < min m s.data.size := by simp at hlt; omega
          simp [Array.getD, h2, y2]
          intro h3; exfalso; simp at hlt; omega
        rw [this]; exact .lit _
      · cases hd
  · cases hs

def hcopy (E : TI) (d x : D) (σ : Store) (K : D → Store → Prop) : Prop :=
  match d, srcE E.size x σ with
  | .lit (.slice (some ⟨b, o, none⟩) n _), some xs => match σ b with
    | some (.cells ds) => (0 < E.size ∧ o + n * E.size ≤ ds.length) ∧ K (.int .i64 (min xs.length n : Nat)) (σ.set b (.cells (spl ds o (xs.take (min xs.length n)).flatten)))
    | _ => False
  | .list [] _, some xs => K (.int .i64 0) σ
  | _, _ => False
theorem copy_goes (h : Sim w0 M σ w) {t u e : TypeId} {T E : TI} (hT : ti P t = some T) (hE : ti P e = some E) (hkk : T.kk = .slice e) (ty : TypeId) {vd vx : Value} {d x : D} (hd : Den M vd d) (hx : Den M vx x) (hkx : SizedAs x E.size) (hk1 : ∀ s, x = .str s → E.size = 1) (hpos0 : 0 < E.size) {K : D → Store → Prop} (hk : hcopy E d x σ K) :
    Goes P (Builtin.copy_ #[t, u] ty #[vd, vx]) w0 M w K := by
  have hu := kk_slice hT hkk
  obtain ⟨i, dd, hi, hdd, e1, e2, e3, -, -⟩ := ti_some hE
  unfold hcopy at hk
  split at hk
  · rename_i b o n c xs hxs
    have := den_lit_inv hd; subst this
    split at hk
    · rename_i ds hσ
      obtain ⟨⟨hpos, hfit⟩, hk⟩ := hk
      -- only a front of the source is read
      obtain ⟨l1, l2, news, l3, l4⟩ := src_reads (P := P) h hx hxs hkx hk1 hpos
      have hfront : ∃ fr : Array Value, (Builtin.firstCells E.size (min xs.length n) vx).run P w = .ok fr w ∧ Pts M fr (xs.take (min xs.length n)).flatten := src_front h hx hxs hkx hk1 hpos _ (Nat.min_le_left _ _)
      obtain ⟨fr, f1, f2⟩ := hfront
      obtain ⟨x1, -⟩ := flatten_get (xs.take (min xs.length n)) (k := E.size) (fun e he => l2 e (List.mem_of_mem_take he))
      have hlen : (xs.take (min xs.length n)).length = min xs.length n := by simp
      obtain ⟨w', r1, r2⟩ := write_pts (P := P) h hσ o f2 (by
        rw [x1, hlen]
        have : min xs.length n * E.size ≤ n * E.size := Nat.mul_le_mul_right _ (Nat.min_le_right _ _)
        omega)
      refine ⟨_, w', M, _, _, ?_, MLe.refl M, r2, .lit _, hk⟩
      rw [e2] at f1
      have hmin : Nat.min xs.length n = min xs.length n := rfl
      simp [Builtin.copy_, run_underlying hu, l1, run_sizeOf hi, hmin, f1, r1, goInt]
    · exact hk.elim
  · rename_i tok xs hxs
    obtain ⟨a, c, k, b, o, cv, rfl, -⟩ := den_list_inv hd
    obtain ⟨l1, -, -⟩ := src_reads (P := P) h hx hxs hkx hk1 hpos0
    refine Goes.pure h ?_ (.lit _) hk
    obtain ⟨fr, f1, f2⟩ := src_front (P := P) h hx hxs hkx hk1 hpos0 0 (Nat.zero_le _)
    have hfr : fr = #[] := by have := f2.size; simp at this; exact this
    subst hfr
    have hz : (Builtin.firstCells i.size 0 vx).run P w = .ok #[] w := by rw [← e2]; exact f1
    cases a <;> simp [Builtin.copy_, run_underlying hu, l1, run_sizeOf hi, hz, goInt, storeCells]
  · exact hk.elim
end Go.HL
