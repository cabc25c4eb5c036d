/- HL, part H: appending: it goes as told. -/
import Derived.Test.YtdbbbhjajkobaabHLG
set_option linter.unusedVariables false
set_option linter.unusedSimpArgs false
namespace Go.HL
open Go.RowKit
variable {P : Program} {w0 w : World} {M : Mem} {σ : Store}

theorem Pts.append {a b : Array Value} {x y : List D} (h : Pts M a x) (k : Pts M b y) : Pts M (a ++ b) (x ++ y) := by
  have hs := h.size
  have ks := k.size
  have key : ∀ i, (a ++ b).getD i undef = if i < a.size then a.getD i undef else b.getD (i - a.size) undef := fun i => by
    simp only [Array.getD_eq_getD_getElem?, Array.getElem?_append]
    split <;> rfl
  refine ⟨by simp [hs, ks], fun i hi => ?_, fun i d hd => ?_⟩
  · simp at hi
    rw [key]
    by_cases hc : i < a.size
    · rw [if_pos hc]; exact h.one i hc
    · rw [if_neg hc]; exact k.one _ (by omega)
  · rw [key]
    rw [List.getElem?_append] at hd
    by_cases hc : i < a.size
    · rw [if_pos hc]; rw [if_pos (by omega)] at hd; exact h.den i d hd
    · rw [if_neg hc]; rw [if_neg (by omega)] at hd; rw [hs]; exact k.den _ d hd

/-- A slice's own elements, as cells. -/
theorem list_reads (h : Sim w0 M σ w) {v : Value} {es : List (List D)} {tok : Tok} (hv : Den M v (.list es tok)) {k : Nat} (hk : SizedAs (.list es tok) k) (hpos : 0 < k) :
    ∃ olds : Array Value, (Builtin.firstCells k es.length v).run P w = .ok olds w ∧ Pts M olds es.flatten := by
  obtain ⟨_, _, h3⟩ := src_reads (P := P) h hv (k := k) (xs := es) rfl hk (by intro s hs; cases hs) hpos
  exact h3

theorem grown_pts {z : Value} {zs : List D} (hz : Pts M z.cells zs) {olds news : Array Value} {xo xn : List D} (ho : Pts M olds xo) (hn : Pts M news xn) (n : Nat) :
    Pts M (olds ++ news ++ Builtin.zeroCells z.cells n) (xo ++ xn ++ zrep n zs) :=
  (ho.append hn).append (pts_zeros hz n _ (by rw [hz.size]))

theorem srcE_sized {k : Nat} {x : D} {xs : List (List D)} (hs : srcE k x σ = some xs) (hk : SizedAs x k) (hk1 : ∀ s, x = .str s → k = 1) : ∀ e ∈ xs, e.length = k := by
  unfold srcE at hs
  split at hs
  · injection hs with hs; subst hs; exact hk
  · split at hs
    · split at hs
      · rename_i hfit
        injection hs with hs; subst hs
        intro e he
        obtain ⟨i, hi, rfl⟩ := List.getElem_of_mem he
        exact (chunk_cells _ k _ (by simp; omega)).1 i _ (List.getElem?_eq_getElem hi)
      · cases hs
    · cases hs
  · rename_i s
    injection hs with hs; subst hs
    intro e he
    obtain ⟨b, -, rfl⟩ := List.mem_map.1 he
    rw [hk1 s rfl]; rfl
  · cases hs

/-- A row that grows into a new block, told as a list. -/
theorem grow_list (h : Sim w0 M σ w) (cs : Array Value) (t : TypeId) (es : List (List D)) (rest : List D) (k n c : Nat) (hn : es.length = n) (hk : ∀ e ∈ es, e.length = k) (hp : Pts M cs (es.flatten ++ rest)) (hc : cs.size = c * k) (hnc : n ≤ c) (hc2 : c ≤ 9223372036854775807) :
    ∃ M', Sim w0 M' (σ.set w.heap.size (.spare n c k)) (w.alloc (.cells cs t)) ∧ MLe M M' ∧ Den M' (.slice (some ⟨w.heap.size, 0, none⟩) n c) (.list es (.own w.heap.size c k)) := by
  obtain ⟨g1, g2⟩ := h.alloc_pub cs t (n * k) (fun j _ hj => hp.one j hj)
  obtain ⟨f1, f2⟩ := flatten_get es hk
  refine ⟨_, g1.add_spare w.heap.size n c k h.fresh h.base.size ⟨cs, t, heap_push_at _ _, hc, hnc, fun o ho => ?_⟩, g2, ?_⟩
  · unfold Mem.pub
    rw [if_pos rfl, if_neg (by omega)]
  · refine den_new_list (hp.mono g2) (by simp [f1, hn]) hnc hc2 (.own w.heap.size c k) es hn (fun i e he => hk e (List.mem_of_getElem? he)) (fun i e j d he hd => ?_) ⟨rfl, rfl, rfl⟩
    have hj : j < k := by have := (List.getElem?_eq_some_iff.1 hd).1; rw [hk e (List.mem_of_getElem? he)] at this; exact this
    have hi : i < es.length := (List.getElem?_eq_some_iff.1 he).1
    have hlt : i * k + j < es.flatten.length := by
      rw [f1]
      calc i * k + j < i * k + k := by omega
        _ = (i + 1) * k := by rw [Nat.succ_mul]
        _ ≤ es.length * k := Nat.mul_le_mul_right _ hi
    rw [List.getElem?_append_left hlt, f2 i e j he hj]; exact hd

/-- A row that has room, told as a list. -/
theorem room_list (h : Sim w0 M σ w) {b c k n m : Nat} {es xs : List (List D)} (hn : es.length = n) (hm : xs.length = m) (hv : Den M (.slice (some ⟨b, 0, none⟩) n c) (.list es (.own b c k))) (hs : σ b = some (.spare n c k)) (hke : ∀ e ∈ es, e.length = k) (hkx : ∀ e ∈ xs, e.length = k)
    (news : Array Value) (hp : Pts M news xs.flatten) (hroom : n + m ≤ c) :
    ∃ w' M', (storeCells ((⟨b, 0, none⟩ : Addr).add (n * k)) news.toList).run P w = .ok () w' ∧ Sim w0 M' (σ.set b (.spare (n + m) c k)) w' ∧ MLe M M' ∧ Den M' (.slice (some ⟨b, 0, none⟩) (n + m) c) (.list (es ++ xs) (.own b c k)) := by
  obtain ⟨cur, t, hb, hsz, hnc, hfree⟩ := h.spare b n c k hs
  obtain ⟨x1, x2⟩ := flatten_get xs hkx
  have hns : news.size = m * k := by rw [hp.size, x1, hm]
  have hfit : n * k + 0 + news.toList.length ≤ cur.size := by
    rw [hsz, Array.length_toList, hns, Nat.add_zero, ← Nat.add_mul]
    exact Nat.mul_le_mul_right _ hroom
  have hone : ∀ v ∈ news.toList, v.oneCell' = true := fun v hv => by
    obtain ⟨i, hi, rfl⟩ := List.getElem_of_mem hv
    have hi' : i < news.size := by simpa using hi
    have := hp.one i hi'
    simpa [Array.getD, hi'] using this
  have hr := run_storeCells_at P b (n * k) t news.toList 0 cur w hb hfit hone
  simp only [Nat.add_zero, Array.length_toList, hns] at hr
  refine ⟨_, fun x o => if x = b ∧ n * k ≤ o ∧ o < (n + m) * k then some (news.getD (o - n * k) undef) else M x o, by rw [addr_add, Nat.zero_add]; exact hr, ?_, ?_, ?_⟩
  rotate_left
  · intro x o v e
    show (if x = b ∧ n * k ≤ o ∧ o < (n + m) * k then some (news.getD (o - n * k) undef) else M x o) = some v
    rw [if_neg]; exact e
    rintro ⟨rfl, h1, h2⟩
    rw [hfree o h1] at e; cases e
  · obtain ⟨a, c', k', b', o', cv, e1, e2, e3, ha, hlen, hmm, hd, ht⟩ := den_list_inv hv
    simp only [Value.slice.injEq] at e1
    obtain ⟨rfl, e1, rfl⟩ := e1
    obtain ⟨-, -, rfl⟩ := ht
    have hMle : MLe M (fun x o => if x = b ∧ n * k ≤ o ∧ o < (n + m) * k then some (news.getD (o - n * k) undef) else M x o) := by
      intro x o v e
      show (if x = b ∧ n * k ≤ o ∧ o < (n + m) * k then some (news.getD (o - n * k) undef) else M x o) = some v
      rw [if_neg]; exact e
      rintro ⟨rfl, h1, h2⟩
      rw [hfree o h1] at e; cases e
    refine .list _ (n + m) c k b 0 (es ++ xs) (.own b c k) (fun i j => if i < n then cv i j else news.getD ((i - n) * k + j) undef) (by simp [hn, hm]) hroom e3 (fun _ => rfl) (fun i e he => ?_) (fun i j hi hj => ?_) (fun i e j d he hd' => ?_) ⟨rfl, rfl, rfl⟩
    · rcases List.mem_append.1 (List.mem_of_getElem? he) with he | he
      · exact hke e he
      · exact hkx e he
    · show (if b = b ∧ n * k ≤ 0 + i * k + j ∧ 0 + i * k + j < (n + m) * k then some (news.getD (0 + i * k + j - n * k) undef) else M b (0 + i * k + j)) = some (if i < n then cv i j else news.getD ((i - n) * k + j) undef)
      by_cases hc : i < n
      · have h2 : i * k + j < n * k := by
          calc i * k + j < i * k + k := by omega
            _ = (i + 1) * k := by rw [Nat.succ_mul]
            _ ≤ n * k := Nat.mul_le_mul_right _ hc
        rw [if_neg (by omega), if_pos hc]
        have hpos : 0 < es.length := by omega
        have := ha hpos
        simp only [Option.some.injEq, Addr.mk.injEq] at this
        obtain ⟨rfl, rfl, -⟩ := this
        exact hmm i j (by omega) hj
      · have h2 : i * k + j < (n + m) * k := by
          calc i * k + j < i * k + k := by omega
            _ = (i + 1) * k := by rw [Nat.succ_mul]
            _ ≤ (n + m) * k := Nat.mul_le_mul_right _ hi
        have h3 : n * k ≤ i * k := Nat.mul_le_mul_right _ (by omega)
        rw [if_pos ⟨rfl, by omega, by omega⟩, if_neg hc, Nat.sub_mul, show 0 + i * k + j - n * k = i * k - n * k + j from by omega]
    · by_cases hc : i < n
      · rw [List.getElem?_append_left (by omega)] at he
        rw [if_pos hc]
        exact (hd i e j d he hd').mono hMle
      · rw [List.getElem?_append_right (by omega)] at he
        rw [if_neg hc, show i - n = i - es.length from by rw [hn]]
        have hj : j < k := by have := (List.getElem?_eq_some_iff.1 hd').1; rw [hkx e (List.mem_of_getElem? he)] at this; exact this
        exact (hp.den _ d (by rw [x2 _ e j he hj]; exact hd')).mono hMle
  · have hMle : MLe M (fun x o => if x = b ∧ n * k ≤ o ∧ o < (n + m) * k then some (news.getD (o - n * k) undef) else M x o) := by
      intro x o v e
      show (if x = b ∧ n * k ≤ o ∧ o < (n + m) * k then some (news.getD (o - n * k) undef) else M x o) = some v
      rw [if_neg]; exact e
      rintro ⟨rfl, h1, h2⟩
      rw [hfree o h1] at e; cases e
    have hnm : (n + m) * k = n * k + m * k := Nat.add_mul ..
    refine h.turn b _ ⟨_, hs⟩ hMle (fun x o hx => if_neg (fun hh => hx hh.1)) rfl rfl rfl (by simp) (fun x hx => setRow_other w b x _ hx) (fun o v e => ?_) (fun _ hh => by cases hh) (fun n' c' k' hh => ?_) (fun _ hh => by cases hh)
    · rw [setRow_cell _ _ _ _ _ _ hb]
      have hcell : ∀ o, ((cur.toList.take (n * k) ++ news.toList ++ cur.toList.drop (n * k + m * k)).toArray)[o]? = if o < n * k then cur[o]? else if o < n * k + m * k then news[o - n * k]? else cur[o]? := by
        intro o
        simp only [List.getElem?_toArray]
        rw [List.append_assoc, List.getElem?_append]
        have h2 : (cur.toList.take (n * k)).length = n * k := by simp; omega
        rw [h2]
        split
        · rename_i hi; rw [List.getElem?_take, if_pos hi, Array.getElem?_toList]
        · rename_i hi
          rw [List.getElem?_append, Array.length_toList, hns]
          split
          · rename_i hi2; rw [if_pos (by omega), Array.getElem?_toList]
          · rename_i hi2; rw [if_neg (by omega), List.getElem?_drop, Array.getElem?_toList, show n * k + m * k + (o - n * k - m * k) = o from by omega]
      rw [hcell]
      by_cases hc : n * k ≤ o ∧ o < (n + m) * k
      · have e' : some (news.getD (o - n * k) undef) = some v := by rw [← e]; exact (if_pos ⟨rfl, hc⟩).symm
        injection e' with e'
        rw [if_neg (by omega), if_pos (by omega)]
        have hlt : o - n * k < news.size := by omega
        have h1 := hp.one _ hlt
        rw [e'] at h1
        refine ⟨?_, h1⟩
        rw [← e']; simp [Array.getD, hlt]
      · have e' : M b o = some v := by rw [← e]; exact (if_neg (fun hh => hc hh.2)).symm
        obtain ⟨m1, m2⟩ := h.mem b o v e'
        rw [cell_of_row w b o cur t (0, 0) hb] at m1
        refine ⟨?_, m2⟩
        split
        · exact m1
        · rw [if_neg (by omega)]; exact m1
    · simp only [HObj.spare.injEq] at hh
      obtain ⟨rfl, rfl, rfl⟩ := hh
      refine ⟨_, t, setRow_heap w b cur _ t _ hb, ?_, hroom, fun o ho => ?_⟩
      · simp only [List.size_toArray, List.length_append, List.length_take, List.length_drop, Array.length_toList]
        simp only [Array.length_toList, Nat.add_zero] at hfit
        omega
      · show (if b = b ∧ n * k ≤ o ∧ o < (n + m) * k then some (news.getD (o - n * k) undef) else M b o) = none
        rw [if_neg (by omega)]
        exact hfree o (by omega)

theorem zero_pts {e : TypeId} {E : TI} (hE : ti P e = some E) (hz : zfit P e = true) {i : TypeInfo} (hi : P.info? e = some i) : ∃ z zs, i.zero = some z ∧ E.zero = some zs ∧ Pts M z.cells zs ∧ zs.length = z.cells.size := by
  obtain ⟨i', d, hi', hd, -, -, -, e4, -⟩ := ti_some hE
  rw [hi] at hi'; injection hi' with hi'; subst hi'
  cases hz0 : i.zero with
  | none => simp [zfit, hi, hz0] at hz
  | some z =>
    rw [hz0] at e4
    obtain ⟨z', i', hi', hz', hp⟩ := pts_zero (M := M) hE hz e4
    rw [hi] at hi'; injection hi' with hi'; subst hi'
    rw [hz0] at hz'; injection hz' with hz'; subst hz'
    exact ⟨z, _, rfl, e4, hp, hp.size.symm⟩

/-- Its zero value has a type's size. -/
def zsize (P : Program) (t : TypeId) : Bool := match P.info? t with
  | some i => match i.zero with
    | some z => z.cells.size == i.size
    | none => false
  | none => false

theorem append_goes (h : Sim w0 M σ w) {t u e e2 : TypeId} {T E : TI} (hT : ti P t = some T) (hE : ti P e = some E) (hkk : T.kk = .slice e) (hu : P.underlying u = some (.slice e2) ∨ P.underlying u = some .string) (hz : zfit P e = true) (hzs : zsize P e = true) (lm : Bool)
    {va vx : Value} {a x : D} (ha : Den M va a) (hx : Den M vx x) (hka : SizedAs a E.size) (hkx : SizedAs x E.size) (hk1 : ∀ s, x = .str s → E.size = 1) (ty : TypeId) {K : D → Store → Prop} (hk : happend lm E a x σ K) :
    Goes P (Builtin.append_ #[t, u] ty #[va, vx]) w0 M w K := by
  obtain ⟨i, d, hi, hd, -, e2', e3, -, -⟩ := ti_some hE
  have ht := kk_slice hT hkk
  unfold happend at hk
  split at hk
  · exact hk.elim
  · rename_i xs hxs
    obtain ⟨hpos, hk⟩ := hk
    obtain ⟨l1, l2, news, l3, l4⟩ := src_reads (P := P) h hx hxs hkx hk1 hpos
    obtain ⟨-, -, news', l3', l4'⟩ := src_reads (P := P) h.drew hx hxs hkx hk1 hpos
    obtain ⟨z, zs, hz1, hz2, hz3, hz4⟩ := zero_pts (M := M) hE hz hi
    have hzk : z.cells.size = E.size := by
      simp only [zsize, hi, hz1] at hzs
      rw [e2']; simpa using hzs
    obtain ⟨x1, x2⟩ := flatten_get xs l2
    split at hk
    · -- a list
      rename_i es tok
      obtain ⟨⟨hb1, hb2⟩, hk⟩ := hk
      have ha0 := ha
      obtain ⟨aa, c, k, b, o, cv, rfl, hc, hc2, haa, hlen, hm, hdd, htk⟩ := den_list_inv ha
      obtain ⟨olds, o1, o2⟩ := list_reads (P := P) h.drew ha0 hka hpos
      obtain ⟨y1, y2⟩ := flatten_get es hka
      -- what grows
      have grow : ∀ {P' : Prop}, c < es.length + xs.length → (∀ M' v', Sim w0 M' (σ.set w.heap.size (.spare (es.length + xs.length) (grownCap w (es.length + xs.length) c e) E.size)) (w.drew.alloc (.cells (olds ++ news' ++ Builtin.zeroCells z.cells (grownCap w (es.length + xs.length) c e - (es.length + xs.length))) e)) →
          MLe M M' → v' = .slice (some ⟨w.heap.size, 0, none⟩) (es.length + xs.length) (grownCap w (es.length + xs.length) c e) → Den M' v' (.list (es ++ xs) (.own w.heap.size (grownCap w (es.length + xs.length) c e) E.size)) →
          (Builtin.append_ #[t, u] ty #[.slice aa es.length c, vx]).run P w = .ok v' (w.drew.alloc (.cells (olds ++ news' ++ Builtin.zeroCells z.cells (grownCap w (es.length + xs.length) c e - (es.length + xs.length))) e)) → P') → P' := by
        intro P' hgr hh
        have hge := grownCap_ge w (es.length + xs.length) c e
        have hle := grownCap_le_maxLen w (es.length + xs.length) c e (by simp only [maxLen]; omega)
        simp only [maxLen] at hle
        have hpts := grown_pts (M := M) hz3 o2 l4' (grownCap w (es.length + xs.length) c e - (es.length + xs.length))
        have hrun := run_app_grow (P := P) (w := w) ht hu hi hz1 aa es.length c xs.length vx ty l1 news' olds (by rw [← e2']; exact l3') (by rw [← e2']; exact o1) hgr hb2 (by rw [← e3]; exact hb1)
        have hsz : (olds ++ news' ++ Builtin.zeroCells z.cells (grownCap w (es.length + xs.length) c e - (es.length + xs.length))).size = grownCap w (es.length + xs.length) c e * E.size := by
          rw [hpts.size]
          simp only [List.length_append, y1, x1, zrep_length, hz4, hzk, ← Nat.add_mul]
          congr 1; omega
        have hp2 : Pts M (olds ++ news' ++ Builtin.zeroCells z.cells (grownCap w (es.length + xs.length) c e - (es.length + xs.length))) ((es ++ xs).flatten ++ zrep (grownCap w (es.length + xs.length) c e - (es.length + xs.length)) zs) := by
          rw [List.flatten_append]; exact hpts
        obtain ⟨M', q1, q2, q3⟩ := grow_list h.drew _ e (es ++ xs) _ E.size (es.length + xs.length) _ (by simp) (fun e' he => by
          rcases List.mem_append.1 he with he | he
          · exact hka e' he
          · exact l2 e' he) hp2 hsz hge hle
        exact hh M' _ q1 q2 rfl q3 hrun
      have same : xs = [] → (Builtin.append_ #[t, u] ty #[.slice aa es.length c, vx]).run P w = .ok (.slice aa es.length c) w := by
        rintro rfl
        have hn0 : news = #[] := by have := l4.size; simp at this; exact this
        subst hn0
        have := run_app_room (P := P) (w := w) ht hu hi aa es.length c 0 vx ty l1 #[] (by rw [← e2']; exact l3) (by omega) (w' := w) (by cases aa <;> simp [storeCells])
        simpa using this
      split at hk
      · -- told to the letter from now on
        obtain ⟨htl, hk1, hk2⟩ := hk
        by_cases hx0 : xs = []
        · exact ⟨_, w, M, _, σ, same hx0, MLe.refl M, h, ha0, hk1 hx0⟩
        · have hxp : 0 < xs.length := List.length_pos_iff.2 hx0
          have hcn : c = es.length := by
            cases tok <;> simp [tokList] at htl
            · obtain ⟨-, q1, q2⟩ := htk; omega
            · exact htk
          have hge := grownCap_ge w (es.length + xs.length) c e
          have hle := grownCap_le_maxLen w (es.length + xs.length) c e (by simp only [maxLen]; omega)
          simp only [maxLen] at hle
          have hpts := grown_pts (M := M) hz3 o2 l4' (grownCap w (es.length + xs.length) c e - (es.length + xs.length))
          have hrun := run_app_grow (P := P) (w := w) ht hu hi hz1 aa es.length c xs.length vx ty l1 news' olds (by rw [← e2']; exact l3') (by rw [← e2']; exact o1) (by omega) hb2 (by rw [← e3]; exact hb1)
          exact ⟨_, _, M, _, _, hrun, MLe.refl M, h.drew.alloc_cells _ e _ hpts.size hpts.one hpts.den, .lit _, hk2 hx0 zs hz2 _ _ h.fresh hge hle⟩
      · split at hk
        · -- nil
          obtain ⟨hk1, hk2⟩ := hk
          by_cases hx0 : xs = []
          · exact ⟨_, w, M, _, σ, same hx0, MLe.refl M, h, ha0, hk1 hx0⟩
          · have hxp : 0 < xs.length := List.length_pos_iff.2 hx0
            obtain ⟨-, q1, q2⟩ := htk
            exact grow (by omega) fun M' v' r1 r2 r3 r4 r5 => ⟨v', _, M', _, _, r5, r2, r1, r4, hk2 hx0 _ _ h.fresh (grownCap_ge w _ _ _)⟩
        · -- full
          obtain ⟨hk1, hk2⟩ := hk
          by_cases hx0 : xs = []
          · exact ⟨_, w, M, _, σ, same hx0, MLe.refl M, h, ha0, hk1 hx0⟩
          · have hxp : 0 < xs.length := List.length_pos_iff.2 hx0
            have q2 : c = es.length := htk
            exact grow (by omega) fun M' v' r1 r2 r3 r4 r5 => ⟨v', _, M', _, _, r5, r2, r1, r4, hk2 hx0 _ _ h.fresh (grownCap_ge w _ _ _)⟩
        · -- own
          rename_i b' c' k'
          obtain ⟨⟨hs, rfl⟩, hk1, hk2⟩ := hk
          obtain ⟨rfl, rfl, rfl⟩ := htk
          by_cases hroom : es.length + xs.length ≤ c'
          · obtain ⟨w', M', r1, r2, r3, r4⟩ := room_list (P := P) h rfl rfl ha0 hs hka l2 news l4 hroom
            have hrun := run_app_room (P := P) (w := w) ht hu hi (some ⟨b', 0, none⟩) es.length c' xs.length vx ty l1 news (by rw [← e2']; exact l3) hroom (w' := w') (by rw [← e2']; exact r1)
            exact ⟨_, w', M', _, _, hrun, r3, r2, r4, hk1 hroom⟩
          · exact grow (by omega) fun M' v' r1 r2 r3 r4 r5 => ⟨v', _, M', _, _, r5, r2, r1, r4, hk2 (by omega) _ _ h.fresh (grownCap_ge w _ _ _)⟩
        · exact hk.elim
    · -- cells to the letter
      rename_i b o n c
      have := den_lit_inv ha; subst this
      split at hk
      · rename_i ds hds
        obtain ⟨⟨hnc, hfit, hb1, hb2⟩, hk1, hk2⟩ := hk
        by_cases hroom : n + xs.length ≤ c
        · have hmul : n * E.size + xs.length * E.size ≤ c * E.size := by rw [← Nat.add_mul]; exact Nat.mul_le_mul_right _ hroom
          obtain ⟨w', r1, r2⟩ := h.write (P := P) hds (o + n * E.size) news.toList xs.flatten (by simpa using l4.size) (by rw [x1]; omega) (fun v hv => by
            obtain ⟨j, hj, rfl⟩ := List.getElem_of_mem hv
            have hj' : j < news.size := by simpa using hj
            have := l4.one j hj'
            simpa [Array.getD, hj'] using this) (fun j y hy => by
            have := l4.den j y hy
            simpa [List.getD_eq_getElem?_getD, Array.getD_eq_getD_getElem?] using this)
          have hrun := run_app_room (P := P) (w := w) ht hu hi (some ⟨b, o, none⟩) n c xs.length vx ty l1 news (by rw [← e2']; exact l3) hroom (w' := w') (by simp only [addr_add]; rw [← e2']; exact r1)
          exact ⟨_, w', M, _, _, hrun, MLe.refl M, r2, .lit _, hk1 hroom⟩
        · have hge := grownCap_ge w (n + xs.length) c e
          have hle := grownCap_le_maxLen w (n + xs.length) c e (by simp only [maxLen]; omega)
          simp only [maxLen] at hle
          have hmul : n * E.size ≤ c * E.size := Nat.mul_le_mul_right _ hnc
          have hh := ((holds_cells h.drew hds).drop o).take (n * E.size)
          rw [Nat.zero_add] at hh
          obtain ⟨olds, q1, q2, q3, q4⟩ := hh.loadCells (P := P)
          have hql : ((ds.drop o).take (n * E.size)).length = n * E.size := by simp; omega
          rw [hql] at q1
          have o2 : Pts M olds ((ds.drop o).take (n * E.size)) := ⟨q2, q3, q4⟩
          have hpts := grown_pts (M := M) hz3 o2 l4' (grownCap w (n + xs.length) c e - (n + xs.length))
          have hrun := run_app_grow (P := P) (w := w) ht hu hi hz1 (some ⟨b, o, none⟩) n c xs.length vx ty l1 news' olds (by rw [← e2']; exact l3') (by rw [← e2']; simpa [Builtin.firstCells] using q1) (by omega) hb2 (by rw [← e3]; exact hb1)
          exact ⟨_, _, M, _, _, hrun, MLe.refl M, h.drew.alloc_cells _ e _ hpts.size hpts.one hpts.den, .lit _, hk2 (by omega) zs hz2 _ _ h.fresh hge hle⟩
      · exact hk.elim
    · exact hk.elim
end Go.HL
