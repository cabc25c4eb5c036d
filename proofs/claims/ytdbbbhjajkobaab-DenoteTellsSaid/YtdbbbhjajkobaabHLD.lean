/- HL, part D: indexing, slicing, comparing, arithmetic. -/
import Derived.Test.YtdbbbhjajkobaabHLC
set_option linter.unusedVariables false
set_option linter.unusedSimpArgs false
namespace Go.HL
open Go.RowKit
variable {P : Program} {w0 w : World} {M : Mem} {σ : Store}

theorem den_lit_inv {v u : Value} (h : Den M v (.lit u)) : v = u := by cases h; rfl

/-! indexAddr -/
def hindexAddr (E : Nat) (x ix : D) (K : D → Prop) : Prop :=
  match x, ix with
  | .list es _, .lit (.int _ i) => (0 ≤ i ∧ i < (es.length : Int)) ∧ K (.iptr (es.getD i.toNat []))
  | .lit (.slice (some ⟨b, o, none⟩) n _), .lit (.int _ i) => (0 ≤ i ∧ i < (n : Int)) ∧ K (.ptr b (o + i.toNat * E))
  | _, _ => False

theorem den_list_inv {v : Value} {es : List (List D)} {tok : Tok} (h : Den M v (.list es tok)) : ∃ (a : Option Addr) (c k b o : Nat) (cv : Nat → Nat → Value), v = .slice a es.length c ∧ es.length ≤ c ∧ c ≤ 9223372036854775807 ∧ (0 < es.length → a = some ⟨b, o, none⟩) ∧ (∀ (i : Nat) (e : List D), es[i]? = some e → e.length = k) ∧
    (∀ i j : Nat, i < es.length → j < k → M b (o + i * k + j) = some (cv i j)) ∧ (∀ (i : Nat) (e : List D) (j : Nat) (d : D), es[i]? = some e → e[j]? = some d → Den M (cv i j) d) ∧ TokOk tok a es.length c k := by
  cases h with
  | list a n c k b o _ _ cv hn hc hc2 ha hk hm hd ht => subst hn; exact ⟨a, c, k, b, o, cv, rfl, hc, hc2, ha, hk, hm, hd, ht⟩

/-- The cells of a slice's elements have the size of its element type. -/
def SizedAs (d : D) (n : Nat) : Prop := match d with
  | .list es _ => ∀ e ∈ es, e.length = n
  | _ => True

theorem indexAddr_goes (h : Sim w0 M σ w) {t e : TypeId} {T E : TI} (hT : ti P t = some T) (hE : ti P e = some E) (hkk : T.kk = .slice e) {v vi : Value} {x ix : D} (hv : Den M v x) (hi : Den M vi ix)
    (hsz : SizedAs x E.size) {K : D → Store → Prop} (hk : hindexAddr E.size x ix (K · σ)) : Goes P (Instr.indexAt t v vi) w0 M w K := by
  obtain ⟨ie, de, hie, hde, -, es2, -, -, -⟩ := ti_some hE
  obtain ⟨it, dt, hit, hdt, e1, -, -, -, -⟩ := ti_some hT
  have hu : P.underlying t = some (.slice e) := by
    rw [hdt]; rw [hkk] at e1
    cases dt <;> simp [kkOf] at e1
    rw [← e1]
  unfold hindexAddr at hk
  split at hk
  · rename_i es tok kk i
    obtain ⟨⟨h0, h1⟩, hk⟩ := hk
    have hvi := den_lit_inv hi
    subst hvi
    obtain ⟨a, c, k, b, o, cv, rfl, hc, hc2, ha, hlen, hm, hd, ht⟩ := den_list_inv hv
    have hpos : 0 < es.length := by omega
    obtain rfl := ha hpos
    obtain ⟨n, rfl⟩ := Int.eq_ofNat_of_zero_le h0
    have hn : n < es.length := by omega
    have hen : es[n]? = some es[n] := List.getElem?_eq_getElem hn
    have hkE : k = ie.size := by rw [← es2, ← hlen n _ hen]; exact hsz _ (List.getElem_mem hn)
    refine Goes.pure h (v := .pointer (some ⟨b, o + n * k, none⟩)) ?_ (.iptr b (o + n * k) _ (fun j => cv n j) (fun j hj => ?_) (fun j d hj => ?_)) hk
    · simp [Instr.indexAt, asIntOf, run_underlying hu, run_sizeOf hie, addr_add, hkE, hn]
    · simp [List.getD_eq_getElem?_getD, hn] at hj
      exact hm n j hn (by rw [← hlen n _ hen]; exact hj)
    · simp [List.getD_eq_getElem?_getD, hn] at hj
      exact hd n _ j d hen hj
  · rename_i b o n c kk i
    obtain ⟨⟨h0, h1⟩, hk⟩ := hk
    have hvi := den_lit_inv hi
    subst hvi
    have hvv := den_lit_inv hv
    subst hvv
    obtain ⟨m, rfl⟩ := Int.eq_ofNat_of_zero_le h0
    refine Goes.pure h ?_ (.lit _) hk
    have hm : m < n := by omega
    simp [Instr.indexAt, asIntOf, run_underlying hu, run_sizeOf hie, addr_add, hm, es2]
  · exact hk.elim

/-! index (a string's byte) -/
def hindex (x ix : D) (K : D → Prop) : Prop :=
  match x, ix with
  | .lit (.string s), .lit (.int _ i) => (0 ≤ i ∧ i < (s.size : Int)) ∧ K (.int .u8 ((s.get! i.toNat).toNat : Int))
  | _, _ => False
theorem index_goes (h : Sim w0 M σ w) {t : TypeId} {T : TI} (hT : ti P t = some T) (hkk : T.kk = .str) {v vi : Value} {x ix : D} (hv : Den M v x) (hi : Den M vi ix) {K : D → Store → Prop} (hk : hindex x ix (K · σ)) : Goes P (Instr.index t v vi) w0 M w K := by
  obtain ⟨it, dt, hit, hdt, e1, -, -, -, -⟩ := ti_some hT
  have hu : P.underlying t = some .string := by
    rw [hdt]; rw [hkk] at e1
    cases dt <;> simp [kkOf] at e1
    rfl
  unfold hindex at hk
  split at hk
  · rename_i s k i
    obtain ⟨⟨h0, h1⟩, hk⟩ := hk
    have hvi := den_lit_inv hi
    subst hvi
    have hvv := den_lit_inv hv
    subst hvv
    obtain ⟨m, rfl⟩ := Int.eq_ofNat_of_zero_le h0
    have hm : m < s.size := by omega
    refine Goes.pure h ?_ (.lit _) hk
    have hg : s[m]? = some s[m] := getElem?_pos s m hm
    have hg2 : s.get! m = s[m] := by
      show s.data[m]! = s.data[m]
      exact getElem!_pos s.data m hm
    simp [Instr.index, asIntOf, run_underlying hu, hg, hg2]
  · exact hk.elim

/-! slices of slices and strings -/
def bnd (d : Option D) (dflt : Nat) : Option Int := match d with
  | none => some dflt
  | some (.lit (.int _ i)) => some i
  | some _ => none
def hslice (E : Nat) (x : D) (lo hi : Option D) (K : D → Prop) : Prop :=
  match x with
  | .lit (.string s) => match bnd lo 0, bnd hi s.size with
    | some l, some h => (0 ≤ l ∧ l ≤ h ∧ h ≤ (s.size : Int)) ∧ K (.str (s.extract l.toNat h.toNat))
    | _, _ => False
  | .list es tok => match bnd lo 0, bnd hi es.length with
    | some l, some h => (0 ≤ l ∧ l ≤ h ∧ h ≤ (es.length : Int)) ∧ K (.list ((es.take h.toNat).drop l.toNat) .ro)
    | _, _ => False
  | .lit (.slice (some ⟨b, o, none⟩) n c) => match bnd lo 0, bnd hi n with
    | some l, some h => (0 ≤ l ∧ l ≤ h ∧ h ≤ (c : Int)) ∧ K (.lit (.slice (some (if c = l.toNat then ⟨b, o, none⟩ else ⟨b, o + l.toNat * E, none⟩)) (h.toNat - l.toNat) (c - l.toNat)))
    | _, _ => False
  | _ => False

theorem bounds_run {lo hi : Option D} {vlo vhi : Option Value} (hlo : ∀ d, lo = some d → ∃ v, vlo = some v ∧ Den M v d) (hhi : ∀ d, hi = some d → ∃ v, vhi = some v ∧ Den M v d)
    (nlo : lo = none → vlo = none) (nhi : hi = none → vhi = none) (b : Bool) (len cap : Nat) (hlc : len ≤ cap) {l h : Int} (el : bnd lo 0 = some l) (eh : bnd hi len = some h) (h0 : 0 ≤ l) (h1 : l ≤ h) (h2 : h ≤ cap) :
    (Instr.sliceBounds b len cap vlo vhi none).run P w = .ok (l.toNat, h.toNat, cap) w := by
  have hl : ∀ k, (Instr.sliceBound (.int k l) h.toNat .sliceB).run P w = .ok l.toNat w := fun k => run_sliceBound w k l h.toNat .sliceB h0 (by omega)
  have hh : ∀ k c, (Instr.sliceBound (.int k h) cap c).run P w = .ok h.toNat w := fun k c => run_sliceBound w k h cap c (by omega) h2
  cases hi with
  | none =>
    obtain rfl := nhi rfl
    simp [bnd] at eh
    cases lo with
    | none =>
      obtain rfl := nlo rfl
      simp [bnd] at el
      subst el; subst eh
      simp [Instr.sliceBounds]
    | some d =>
      obtain ⟨v, rfl, hv⟩ := hlo d rfl
      unfold bnd at el
      split at el <;> first | (rename_i heq; cases heq; done) | skip
      · rename_i k i heq
        injection el with el; subst el
        injection heq with heq; subst heq
        have := den_lit_inv hv; subst this
        subst eh
        have hl' := hl k
        simp at hl'
        simp [Instr.sliceBounds, hl']
      · cases el
  | some dh =>
    obtain ⟨v, rfl, hv⟩ := hhi dh rfl
    unfold bnd at eh
    split at eh <;> first | (rename_i heq; cases heq; done) | skip
    · rename_i k i heq
      injection eh with eh; subst eh
      injection heq with heq; subst heq
      have := den_lit_inv hv; subst this
      cases lo with
      | none =>
        obtain rfl := nlo rfl
        simp [bnd] at el
        subst el
        cases b <;> simp [Instr.sliceBounds, hh k]
      | some d =>
        obtain ⟨v, rfl, hv⟩ := hlo d rfl
        unfold bnd at el
        split at el <;> first | (rename_i heq; cases heq; done) | skip
        · rename_i k' i' heq
          injection el with el; subst el
          injection heq with heq; subst heq
          have := den_lit_inv hv; subst this
          cases b <;> simp [Instr.sliceBounds, hh k, hl k']
        · cases el
    · cases eh

theorem kk_slice {t e : TypeId} {T : TI} (hT : ti P t = some T) (hkk : T.kk = .slice e) : P.underlying t = some (.slice e) := by
  obtain ⟨it, dt, hit, hdt, e1, -, -, -, -⟩ := ti_some hT
  rw [hdt]; rw [hkk] at e1
  cases dt <;> simp [kkOf] at e1
  rw [← e1]
theorem kk_str {t : TypeId} {T : TI} (hT : ti P t = some T) (hkk : T.kk = .str) : P.underlying t = some .string := by
  obtain ⟨it, dt, hit, hdt, e1, -, -, -, -⟩ := ti_some hT
  rw [hdt]; rw [hkk] at e1
  cases dt <;> simp [kkOf] at e1
  rfl

theorem slice_str_goes (h : Sim w0 M σ w) {t : TypeId} {T : TI} (hT : ti P t = some T) (hkk : T.kk = .str) {v : Value} {x : D} (hv : Den M v x) {lo hi : Option D} {vlo vhi : Option Value}
    (hlo : ∀ d, lo = some d → ∃ v, vlo = some v ∧ Den M v d) (hhi : ∀ d, hi = some d → ∃ v, vhi = some v ∧ Den M v d) (nlo : lo = none → vlo = none) (nhi : hi = none → vhi = none)
    {K : D → Store → Prop} {s : ByteArray} (hx : x = .str s) (hk : hslice 0 x lo hi (K · σ)) : Goes P (Instr.sliceAt t v vlo vhi none) w0 M w K := by
  subst hx
  have := den_lit_inv hv; subst this
  unfold hslice at hk
  simp only at hk
  split at hk
  · rename_i l hh el eh
    obtain ⟨⟨h0, h1, h2⟩, hk⟩ := hk
    refine Goes.pure h ?_ (.lit _) hk
    have hu := kk_str hT hkk
    have hb := bounds_run (P := P) (w := w) hlo hhi nlo nhi false s.size s.size (Nat.le_refl _) el eh h0 h1 h2
    simp [Instr.sliceAt, run_underlying hu, Instr.slice, hb]
  · exact hk.elim

theorem slice_goes (h : Sim w0 M σ w) {t e : TypeId} {T E : TI} (hT : ti P t = some T) (hE : ti P e = some E) (hkk : T.kk = .slice e) {v : Value} {x : D} (hv : Den M v x) (hsz : SizedAs x E.size) {lo hi : Option D} {vlo vhi : Option Value}
    (hlo : ∀ d, lo = some d → ∃ v, vlo = some v ∧ Den M v d) (hhi : ∀ d, hi = some d → ∃ v, vhi = some v ∧ Den M v d) (nlo : lo = none → vlo = none) (nhi : hi = none → vhi = none)
    {K : D → Store → Prop} (hns : ∀ s, x ≠ .str s) (hcap : ∀ b o n c, x = .lit (.slice (some ⟨b, o, none⟩) n c) → n ≤ c) (hk : hslice E.size x lo hi (K · σ)) : Goes P (Instr.sliceAt t v vlo vhi none) w0 M w K := by
  obtain ⟨ie, de, hie, hde, -, es2, -, -, -⟩ := ti_some hE
  have hu := kk_slice hT hkk
  unfold hslice at hk
  split at hk
  · exact absurd rfl (hns _)
  · rename_i es tok
    split at hk
    · rename_i l hh el eh
      obtain ⟨⟨h0, h1, h2⟩, hk⟩ := hk
      obtain ⟨a, c, k, b, o, cv, rfl, hc, hc2, ha, hlen, hm, hd, ht⟩ := den_list_inv hv
      have hb := bounds_run (P := P) (w := w) hlo hhi nlo nhi true es.length c hc el eh h0 h1 (by omega)
      refine Goes.pure h (v := .slice (if c = l.toNat then a else a.map (·.add (l.toNat * ie.size))) (hh.toNat - l.toNat) (c - l.toNat)) ?_ ?_ hk
      · simp [Instr.sliceAt, run_underlying hu, Instr.slice, hb, run_sizeOf hie]
      · have hl2 : ((es.take hh.toNat).drop l.toNat).length = hh.toNat - l.toNat := by simp; omega
        have hget : ∀ (i : Nat) (e : List D), ((es.take hh.toNat).drop l.toNat)[i]? = some e → es[l.toNat + i]? = some e := fun i e he => by
          rw [List.getElem?_drop, List.getElem?_take] at he
          split at he
          · exact he
          · cases he
        refine .list _ _ _ k b (o + l.toNat * k) _ .ro (fun i j => cv (l.toNat + i) j) hl2.symm (by omega) (by omega) (fun hp => ?_) (fun i e he => hlen _ e (hget i e he)) (fun i j hi hj => ?_) (fun i e j d he hj => hd _ e j d (hget i e he) hj) trivial
        · obtain rfl := ha (by omega)
          have hl3 : l.toNat < es.length := by omega
          have hk2 : k = ie.size := by rw [← es2, ← hlen l.toNat _ (List.getElem?_eq_getElem hl3)]; exact hsz _ (List.getElem_mem hl3)
          rw [if_neg (by omega), hk2]
          simp [addr_add]
        · have := hm (l.toNat + i) j (by omega) hj
          rw [Nat.add_mul] at this
          rw [← Nat.add_assoc] at this
          exact this
    · exact hk.elim
  · rename_i b o n c
    split at hk
    · rename_i l hh el eh
      obtain ⟨⟨h0, h1, h2⟩, hk⟩ := hk
      have := den_lit_inv hv; subst this
      have hb := bounds_run (P := P) (w := w) hlo hhi nlo nhi true n c (hcap _ _ _ _ rfl) el eh h0 h1 (by omega)
      refine Goes.pure h ?_ (.lit _) hk
      simp [Instr.sliceAt, run_underlying hu, Instr.slice, hb, run_sizeOf hie, es2]
      split <;> simp [addr_add]
    · exact hk.elim
  · exact hk.elim

/-! slices with a third index -/
def hslice3 (E : Nat) (x : D) (lo : Option D) (hi mx : D) (K : D → Prop) : Prop :=
  match x with
  | .lit (.slice (some ⟨b, o, none⟩) n c) => match bnd lo 0, bnd (some hi) 0, bnd (some mx) 0 with
    | some l, some h, some m => (0 ≤ l ∧ l ≤ h ∧ h ≤ m ∧ m ≤ (c : Int)) ∧ K (.lit (.slice (some (if m.toNat = l.toNat then ⟨b, o, none⟩ else ⟨b, o + l.toNat * E, none⟩)) (h.toNat - l.toNat) (m.toNat - l.toNat)))
    | _, _, _ => False
  | _ => False
theorem bnd_lit {d : D} {n : Nat} {i : Int} (h : bnd (some d) n = some i) : ∃ k, d = .lit (.int k i) := by
  unfold bnd at h
  split at h
  · simp at *
  · rename_i k j e; injection h with h; injection e with e; subst h; exact ⟨k, e⟩
  · cases h
theorem bounds_run3 {lo : Option D} {hi mx : D} {vlo : Option Value} {vhi vmx : Value} (hlo : ∀ d, lo = some d → ∃ v, vlo = some v ∧ Den M v d) (nlo : lo = none → vlo = none) (hhi : Den M vhi hi) (hmx : Den M vmx mx)
    (b : Bool) (len cap : Nat) {l h m : Int} (el : bnd lo 0 = some l) (eh : bnd (some hi) 0 = some h) (em : bnd (some mx) 0 = some m) (h0 : 0 ≤ l) (h1 : l ≤ h) (h2 : h ≤ m) (h3 : m ≤ cap) :
    (Instr.sliceBounds b len cap vlo (some vhi) (some vmx)).run P w = .ok (l.toNat, h.toNat, m.toNat) w := by
  obtain ⟨kh, rfl⟩ := bnd_lit eh
  obtain ⟨km, rfl⟩ := bnd_lit em
  have := den_lit_inv hhi; subst this
  have := den_lit_inv hmx; subst this
  have hm : ∀ c, (Instr.sliceBound (.int km m) cap c).run P w = .ok m.toNat w := fun c => run_sliceBound w km m cap c (by omega) h3
  have hh : ∀ c, (Instr.sliceBound (.int kh h) m.toNat c).run P w = .ok h.toNat w := fun c => run_sliceBound w kh h m.toNat c (by omega) (by omega)
  cases lo with
  | none =>
    obtain rfl := nlo rfl
    simp [bnd] at el
    subst el
    simp [Instr.sliceBounds, hm, hh]
  | some d =>
    obtain ⟨kl, rfl⟩ := bnd_lit el
    obtain ⟨v, rfl, hv⟩ := hlo _ rfl
    have := den_lit_inv hv; subst this
    have hl : ∀ c, (Instr.sliceBound (.int kl l) h.toNat c).run P w = .ok l.toNat w := fun c => run_sliceBound w kl l h.toNat c h0 (by omega)
    simp [Instr.sliceBounds, hm, hh, hl]
theorem slice3_goes (h : Sim w0 M σ w) {t e : TypeId} {T E : TI} (hT : ti P t = some T) (hE : ti P e = some E) (hkk : T.kk = .slice e) {v : Value} {x : D} (hv : Den M v x) {lo : Option D} {hi mx : D} {vlo : Option Value} {vhi vmx : Value}
    (hlo : ∀ d, lo = some d → ∃ v, vlo = some v ∧ Den M v d) (nlo : lo = none → vlo = none) (hhi : Den M vhi hi) (hmx : Den M vmx mx)
    {K : D → Store → Prop} (hk : hslice3 E.size x lo hi mx (K · σ)) : Goes P (Instr.sliceAt t v vlo (some vhi) (some vmx)) w0 M w K := by
  obtain ⟨ie, de, hie, hde, -, es2, -, -, -⟩ := ti_some hE
  have hu := kk_slice hT hkk
  unfold hslice3 at hk
  split at hk
  · rename_i b o n c
    split at hk
    · rename_i l hh m el eh em
      obtain ⟨⟨h0, h1, h2, h3⟩, hk⟩ := hk
      have := den_lit_inv hv; subst this
      have hb := bounds_run3 (P := P) (w := w) hlo nlo hhi hmx true n c el eh em h0 h1 h2 h3
      refine Goes.pure h ?_ (.lit _) hk
      simp [Instr.sliceAt, run_underlying hu, Instr.slice, hb, run_sizeOf hie, es2]
      split <;> simp [addr_add]
    · exact hk.elim
  · exact hk.elim
end Go.HL
