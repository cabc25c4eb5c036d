/- Programs that may be: what the program's layer 13 does. -/
import Derived.Test.YtdbbbhjajkobaabGcode
set_option linter.unusedVariables false
set_option linter.unusedSimpArgs false
set_option maxRecDepth 100000
set_option maxHeartbeats 1000000
namespace Go.HL
open Go.RowKit Go.Proofs

/-! Maps from texts to numbers. -/
abbrev IM := List (ByteArray × Int)
def toV (es : IM) : List (ByteArray × Value) := es.map fun p => (p.1, Value.int .i64 p.2)
def icnt (s : ByteArray) : IM → Int
  | [] => 0
  | (k, v) :: r => if k = s then v else icnt s r
def iput (s : ByteArray) (n : Int) : IM → IM
  | [] => [(s, n)]
  | (k, v) :: r => if k = s then (s, n) :: r else (k, v) :: iput s n r
theorem mfind_toV (s : ByteArray) (es : IM) : (mfind s (toV es) = none ∧ icnt s es = 0) ∨ mfind s (toV es) = some (.int .i64 (icnt s es)) := by
  induction es with
  | nil => exact .inl ⟨rfl, rfl⟩
  | cons p r ih =>
    obtain ⟨k, v⟩ := p
    simp only [toV, List.map_cons, mfind, icnt]
    split
    · exact .inr rfl
    · exact ih
theorem mput_toV (s : ByteArray) (n : Int) (es : IM) : mput s (.int .i64 n) (toV es) = toV (iput s n es) := by
  induction es with
  | nil => rfl
  | cons p r ih =>
    obtain ⟨k, v⟩ := p
    simp only [toV, List.map_cons, mput, iput]
    split
    · rfl
    · simp only [List.map_cons]; congr 1
@[simp] theorem toV_length (es : IM) : (toV es).length = es.length := by simp [toV]
def inc (s : ByteArray) (es : IM) : IM := iput s (IntKind.i64.wrap (icnt s es + 1)) es

@[simp] theorem found_toV (s : ByteArray) (es : IM) : foundV s (toV es) (.lit (.int .i64 0)) = .int .i64 (icnt s es) := by
  unfold foundV
  rcases mfind_toV s es with ⟨h1, h2⟩ | h
  · rw [h1, h2]
  · rw [h]
structure Pl where
  keys : IM
  all : Bool
structure Chk where
  pls : List Pl
  ahead : Int
  names : IM
def isEl (o : Int) : Bool := decide (o = 1) || decide (o = 3)
def isTell (o : Int) : Bool := decide (o = 5) || decide (o = 6)
def plD (p : Nat × Pl) : List D := [.lit (.map (some p.1)), .bool p.2.all]
theorem plD_length (p : Nat × Pl) : (plD p).length = 2 := rfl
@[simp high] theorem flatP_length (l : List (Nat × Pl)) (rest : List D) : ((l.map plD).flatten ++ rest).length = l.length * 2 + rest.length := by
  rw [List.length_append, flat_length plD 2 plD_length]
/-- The checker, as it stands written: its block, that of its places, the maps. -/
structure Rep (σ0 : Store) (bc : Nat) (C : Chk) (σ : Store) (bp cap : Nat) (ps : List (Nat × Pl)) (rest : List D) (nm : Option Nat) : Prop where
  le : SLe σ0 σ
  oc : σ0 bc = none
  op : σ0 bp = none
  oi : ∀ p ∈ ps, σ0 p.1 = none
  on : ∀ r, nm = some r → σ0 r = none
  self : σ bc = some (.cells [.lit (.slice (some ⟨bp, 0, none⟩) ps.length cap), .int .i64 C.ahead, .lit (.map nm)])
  cells : σ bp = some (.cells ((ps.map plD).flatten ++ rest))
  pls : ps.map (·.2) = C.pls
  nd : (ps.map (·.1)).Nodup
  maps : ∀ p ∈ ps, σ p.1 = some (.hmap (toV p.2.keys))
  names : (nm = none ∧ C.names = []) ∨ ∃ r, nm = some r ∧ σ r = some (.hmap (toV C.names)) ∧ ∀ p ∈ ps, p.1 ≠ r
  cap1 : ps.length ≤ cap
  cap2 : cap ≤ 9223372036854775807
  room : rest.length = (cap - ps.length) * 2
  ne : bc ≠ bp
def RepAt (el : Bool) (σ0 : Store) (bc : Nat) (C : Chk) (σ : Store) : Prop := ∃ bp cap ps rest nm, Rep σ0 bc C σ bp cap ps rest nm ∧ (el = true → nm ≠ none) ∧ ps ≠ []

def attrC (C : Chk) (x : Ins) : Option Chk :=
  if (!(isEl C.ahead || isTell C.ahead) || decide (0 < icnt x.a C.names)) || decide (8 ≤ C.names.length) then none else some { C with names := inc x.a C.names }
/-- Names are told only behind an element, and that has made the map. -/
def Chk.named (C : Chk) (nm : Option Nat) : Prop := (isEl C.ahead || isTell C.ahead) = true → nm ≠ none
theorem c_vattr (σ0 : Store) (bc : Nat) (C : Chk) (σ : Store) (x : Ins) (bp cap : Nat) (ps : List (Nat × Pl)) (rest : List D) (nm : Option Nat) (h : Rep σ0 bc C σ bp cap ps rest nm) (hn : C.named nm) :
    HCalls Try.prog 156 [.ptr bc 0, .agg (insD x)] σ fun d s => match attrC C x with
      | none => d = errD 9 ∧ SLe σ0 s
      | some C' => d = errD 0 ∧ Rep σ0 bc C' s bp cap ps rest nm := by
  refine HCalls.start mixed true _ _ (fn := Try.f156) (by kernel_rfl) rfl (by kernel_rfl) rfl (by kernel_rfl) (by kernel_rfl) ?_
  have hs := h.self
  have hel2 : ∀ {p q r t : Bool}, True := fun {_ _ _ _} => trivial
  cases hel : (isEl C.ahead || isTell C.ahead) with
  | false =>
    have h1 : ¬ C.ahead = 1 ∧ ¬ C.ahead = 3 ∧ ¬ C.ahead = 5 ∧ ¬ C.ahead = 6 := by simp [isEl, isTell] at hel; omega
    simp (maxSteps := 2000000) +contextual [insD_def, hs, h1, -decide_eq_true_eq, -decide_eq_false_iff_not]
    intro b hb
    have hbc : bc ≠ b := fun e => by subst e; rw [hs] at hb; cases hb
    refine c_tells _ _ _ ?_
    simp (maxSteps := 2000000) +contextual [insD_def, hs, h1, -decide_eq_true_eq, -decide_eq_false_iff_not]
    refine hdraw_intro (by kernel_rfl) ?_
    simp (maxSteps := 2000000) +contextual [insD_def, hs, h1, -decide_eq_true_eq, -decide_eq_false_iff_not]
    have : attrC C x = none := by simp [attrC, hel]
    rw [this]
    exact ⟨_, SLe.refl _, rfl, (h.le).set hb _⟩
  | true =>
    obtain ⟨r, rfl⟩ := Option.ne_none_iff_exists'.1 (hn hel)
    obtain ⟨hr, hrp⟩ : σ r = some (.hmap (toV C.names)) ∧ ∀ p ∈ ps, p.1 ≠ r := by
      rcases h.names with ⟨h1, -⟩ | ⟨r', h1, h2, h3⟩
      · cases h1
      · injection h1 with h1; subst h1; exact ⟨h2, h3⟩
    have hrb0 : bc ≠ r := fun e => by subst e; rw [hs] at hr; cases hr
    have hbr : bp ≠ r := fun e => by subst e; rw [h.cells] at hr; cases hr
    have go : ∀ b, σ b = none → Rep σ0 bc { C with names := inc x.a C.names } ((σ.set b (.cells (insD x))).set r (.hmap (toV (inc x.a C.names)))) bp cap ps rest (some r) := by
      intro b hb
      have g : ∀ y o, y ≠ r → σ y = some o → ((σ.set b (.cells (insD x))).set r (.hmap (toV (inc x.a C.names)))) y = some o := fun y o h1 h2 => by
        have : y ≠ b := fun e => by subst e; rw [hb] at h2; cases h2
        rw [Store.set_ne _ _ _ _ h1, Store.set_ne _ _ _ _ this, h2]
      exact ⟨(h.le.set hb _).put (h.on r rfl) _, h.oc, h.op, h.oi, h.on, g _ _ hrb0 hs, g _ _ hbr h.cells, h.pls, h.nd, fun p hp => g _ _ (hrp p hp) (h.maps p hp), .inr ⟨r, rfl, by simp, hrp⟩, h.cap1, h.cap2, h.room, h.ne⟩
    have h3 : C.ahead = 1 ∨ (¬ C.ahead = 1 ∧ C.ahead = 3) ∨ (¬ C.ahead = 1 ∧ ¬ C.ahead = 3) := by omega
    have fin : ∀ c1 c2 : Bool, decide (0 < icnt x.a C.names) = c1 → decide (8 ≤ C.names.length) = c2 → attrC C x = if c1 || c2 then none else some { C with names := inc x.a C.names } := fun c1 c2 h1 h2 => by
      simp only [attrC, hel, h1, h2, Bool.not_true, Bool.false_or]
    rcases h3 with h3 | h3 | h3
    focus
      simp (maxSteps := 2000000) +contextual [insD_def, hs, h3, -decide_eq_true_eq, -decide_eq_false_iff_not]
      intro b hb
    rotate_left
    focus
      simp (maxSteps := 2000000) +contextual [insD_def, hs, h3, -decide_eq_true_eq, -decide_eq_false_iff_not]
      intro b hb
    rotate_left
    focus
      have h4 : (decide (C.ahead = 5) || decide (C.ahead = 6)) = true := by simpa [isEl, isTell, h3] using hel
      simp (maxSteps := 2000000) +contextual [insD_def, hs, h3, -decide_eq_true_eq, -decide_eq_false_iff_not]
      intro b hb
      refine c_tells _ _ _ ?_
      rw [h4]
      have hbc : bc ≠ b := fun e => by subst e; rw [hs] at hb; cases hb
      simp (maxSteps := 2000000) +contextual [insD_def, hs, h3, -decide_eq_true_eq, -decide_eq_false_iff_not]
    rotate_left
    all_goals
      have hbc : bc ≠ b := fun e => by subst e; rw [hs] at hb; cases hb
      have hrb : r ≠ b := fun e => by subst e; rw [hr] at hb; cases hb
      refine hdraw_intro (by kernel_rfl) ?_
      simp (maxSteps := 2000000) +contextual [insD_def, hs, h3, hr, hbc, hrb, -decide_eq_true_eq, -decide_eq_false_iff_not]
      refine ⟨fun h5 => ⟨fun h6 => ?_, fun h6 => ?_⟩, fun h5 => ?_⟩
      · have h6 : decide (8 ≤ C.names.length) = true := by have := dec_t h6; simp; omega
        rw [fin _ _ h5 h6]
        exact ⟨_, SLe.refl _, rfl, (h.le).set hb _⟩
      · have h6 : decide (8 ≤ C.names.length) = false := by have := dec_f h6; simp; omega
        refine hdraw_cut 8 _ (SLe.refl _) (by kernel_rfl) (by kernel_rfl) ?_
        simp (maxSteps := 2000000) +contextual [insD_def, hs, h3, hr, hbc, hrb, -decide_eq_true_eq, -decide_eq_false_iff_not]
        refine ⟨fun _ => none, (fun _ _ h => by cases h), (fun _ _ h => by cases h), ?_⟩
        rw [mput_toV, fin _ _ h5 h6]
        exact ⟨_, SLe.refl _, go b hb⟩
      · cases h6 : decide (8 ≤ C.names.length) <;> rw [fin _ _ h5 h6] <;> exact ⟨_, SLe.refl _, rfl, (h.le).set hb _⟩

theorem Rep.cells2 {σ0 : Store} {bc : Nat} {C : Chk} {σ : Store} {bp cap : Nat} {qs : List (Nat × Pl)} {t : Nat × Pl} {rest : List D} {nm : Option Nat} (h : Rep σ0 bc C σ bp cap (qs ++ [t]) rest nm) :
    σ bp = some (.cells ((qs.map plD).flatten ++ (.lit (.map (some t.1)) :: .bool t.2.all :: rest))) := by
  rw [h.cells]; simp [plD]
theorem c_vends (σ0 : Store) (bc : Nat) (C : Chk) (σ : Store) (bp cap : Nat) (qs : List (Nat × Pl)) (t : Nat × Pl) (rest : List D) (nm : Option Nat) (h : Rep σ0 bc C σ bp cap (qs ++ [t]) rest nm) :
    HCalls Try.prog 157 [.ptr bc 0] σ fun d s => if qs = [] then d = errD 8 ∧ SLe σ0 s else
      d = errD 0 ∧ Rep σ0 bc { C with pls := C.pls.dropLast } s bp cap qs (plD t ++ rest) nm := by
  refine HCalls.start mixed true _ _ (fn := Try.f157) (by kernel_rfl) rfl (by kernel_rfl) rfl (by kernel_rfl) (by kernel_rfl) ?_
  have hs := h.self
  have hc1 := h.cap1
  have hc2 := h.cap2
  have hroom := h.room
  simp only [List.length_append, List.length_cons, List.length_nil] at hs hc1 hroom
  have e1 : ((qs.length : Int) + 1 = 1) = (qs = []) := by
    apply propext
    constructor
    · intro h; exact List.eq_nil_of_length_eq_zero (by omega)
    · intro h; subst h; simp
  by_cases hq : qs = []
  · subst hq
    simp (maxSteps := 2000000) +contextual [hs, -decide_eq_true_eq, -decide_eq_false_iff_not]
    exact ⟨_, SLe.refl _, rfl, h.le⟩
  · have e2 : IntKind.i64.wrap ((qs.length : Int) + 1 - 1) = qs.length := by rw [wrap_i64] <;> omega
    have e3 : IntKind.i64.wrap (qs.length : Int) = qs.length := by rw [wrap_i64] <;> omega
    simp (maxSteps := 2000000) +contextual [hs, e1, hq, -decide_eq_true_eq, -decide_eq_false_iff_not]
    refine hdraw_cut 12 σ (SLe.refl _) (by kernel_rfl) (by kernel_rfl) ?_
    simp (maxSteps := 2000000) +contextual [hs, e1, hq, e3, -decide_eq_true_eq, -decide_eq_false_iff_not]
    refine ⟨by simp; omega, by omega, fun _ => none, (fun _ _ h => by cases h), (fun _ _ h => by cases h), ?_⟩
    refine ⟨_, SLe.refl _, ?_⟩
    have hbp := h.ne
    have hmem : ∀ p ∈ qs, p ∈ qs ++ [t] := fun p hp => List.mem_append_left _ hp
    have hne : ∀ p ∈ qs ++ [t], p.1 ≠ bc := fun p hp e => by have := h.maps p hp; rw [e, h.self] at this; cases this
    have hpl : qs.map (·.2) = C.pls.dropLast := by rw [← h.pls]; simp
    have hnd := h.nd
    rw [List.map_append, List.nodup_append] at hnd
    refine ⟨h.le.put h.oc _, h.oc, h.op, fun p hp => h.oi p (hmem p hp), h.on, by simp, ?_, hpl, hnd.1, fun p hp => ?_, ?_, by omega, hc2, ?_, h.ne⟩
    · rw [Store.set_ne _ _ _ _ (fun e => h.ne e.symm), h.cells]; simp
    · rw [Store.set_ne _ _ _ _ (hne p (hmem p hp))]; exact h.maps p (hmem p hp)
    · rcases h.names with h1 | ⟨r, h1, h2, h3⟩
      · exact .inl h1
      · refine .inr ⟨r, h1, ?_, fun p hp => h3 p (hmem p hp)⟩
        rw [Store.set_ne _ _ _ _ (fun e => by subst e; rw [h.self] at h2; cases h2)]
        exact h2
    · rw [List.length_append, plD_length, hroom]; omega

def Store.del (s : Store) (b : Nat) : Store := fun x => if x = b then none else s x
theorem Store.del_set (s : Store) (b : Nat) (o : HObj) (h : s b = some o) : (s.del b).set b o = s := by
  funext x
  simp only [Store.set, Store.del]
  split
  · rename_i e; subst e; exact h.symm
  · rfl
section
variable {σ0 : Store} {bc : Nat} {C : Chk} {σ : Store} {bp cap : Nat} {ps qs : List (Nat × Pl)} {t : Nat × Pl} {rest : List D} {nm : Option Nat}
theorem Rep.nec (h : Rep σ0 bc C σ bp cap ps rest nm) {p : Nat × Pl} (hp : p ∈ ps) : p.1 ≠ bc := fun e => by have := h.maps p hp; rw [e, h.self] at this; cases this
theorem Rep.nep (h : Rep σ0 bc C σ bp cap ps rest nm) {p : Nat × Pl} (hp : p ∈ ps) : p.1 ≠ bp := fun e => by have := h.maps p hp; rw [e, h.cells] at this; cases this
theorem Rep.nrc (h : Rep σ0 bc C σ bp cap ps rest nm) {r : Nat} (hr : nm = some r) : r ≠ bc := fun e => by
  rcases h.names with ⟨h1, -⟩ | ⟨r', h1, h2, -⟩
  · rw [h1] at hr; cases hr
  · rw [h1] at hr; injection hr with hr; subst hr; rw [e, h.self] at h2; cases h2
theorem Rep.nrp (h : Rep σ0 bc C σ bp cap ps rest nm) {r : Nat} (hr : nm = some r) : r ≠ bp := fun e => by
  rcases h.names with ⟨h1, -⟩ | ⟨r', h1, h2, -⟩
  · rw [h1] at hr; cases hr
  · rw [h1] at hr; injection hr with hr; subst hr; rw [e, h.cells] at h2; cases h2
/-- Another store in which the same blocks stand. -/
theorem Rep.same (h : Rep σ0 bc C σ bp cap ps rest nm) {σ' : Store} (hle : SLe σ0 σ') (hk : ∀ x o, σ x = some o → σ' x = some o) : Rep σ0 bc C σ' bp cap ps rest nm :=
  ⟨hle, h.oc, h.op, h.oi, h.on, hk _ _ h.self, hk _ _ h.cells, h.pls, h.nd, fun p hp => hk _ _ (h.maps p hp), by
    rcases h.names with h1 | ⟨r, h1, h2, h3⟩
    · exact .inl h1
    · exact .inr ⟨r, h1, hk _ _ h2, h3⟩, h.cap1, h.cap2, h.room, h.ne⟩
theorem Rep.box (h : Rep σ0 bc C σ bp cap ps rest nm) {b : Nat} (hb : σ b = none) (o : HObj) : Rep σ0 bc C (σ.set b o) bp cap ps rest nm :=
  h.same (h.le.set hb _) fun x o' e => by rw [Store.set_ne _ _ _ _ (fun e' => by subst e'; rw [hb] at e; cases e)]; exact e
/-- The checker's own block written anew. -/
theorem Rep.own (h : Rep σ0 bc C σ bp cap ps rest nm) (a : Int) : Rep σ0 bc { C with ahead := a } (σ.set bc (.cells [.lit (.slice (some ⟨bp, 0, none⟩) ps.length cap), .int .i64 a, .lit (.map nm)])) bp cap ps rest nm := by
  refine ⟨h.le.put h.oc _, h.oc, h.op, h.oi, h.on, by simp, ?_, h.pls, h.nd, fun p hp => ?_, ?_, h.cap1, h.cap2, h.room, h.ne⟩
  · rw [Store.set_ne _ _ _ _ (fun e => h.ne e.symm)]; exact h.cells
  · rw [Store.set_ne _ _ _ _ (h.nec hp)]; exact h.maps p hp
  · rcases h.names with h1 | ⟨r, h1, h2, h3⟩
    · exact .inl h1
    · exact .inr ⟨r, h1, by rw [Store.set_ne _ _ _ _ (h.nrc h1)]; exact h2, h3⟩
theorem Rep.setAll (h : Rep σ0 bc C σ bp cap (qs ++ [t]) rest nm) (v : Bool) :
    Rep σ0 bc { C with pls := qs.map (·.2) ++ [{ t.2 with all := v }] } (σ.set bp (.cells ((qs.map plD).flatten ++ (.lit (.map (some t.1)) :: .bool v :: rest)))) bp cap (qs ++ [(t.1, { t.2 with all := v })]) rest nm := by
  have hc : ∀ p, p ∈ qs ++ [(t.1, { t.2 with all := v })] → ∃ p' ∈ qs ++ [t], p'.1 = p.1 ∧ p'.2.keys = p.2.keys := by
    intro p hp
    rcases List.mem_append.1 hp with hp | hp
    · exact ⟨p, List.mem_append_left _ hp, rfl, rfl⟩
    · simp at hp; subst hp; exact ⟨t, by simp, rfl, rfl⟩
  refine ⟨h.le.put h.op _, h.oc, h.op, fun p hp => ?_, h.on, ?_, by simp [plD], by simp, by simpa using h.nd, fun p hp => ?_, ?_, by simpa using h.cap1, h.cap2, by simpa using h.room, h.ne⟩
  · obtain ⟨p', h1, h2, -⟩ := hc p hp; rw [← h2]; exact h.oi p' h1
  · rw [Store.set_ne _ _ _ _ h.ne, h.self]; simp
  · obtain ⟨p', h1, h2, h3⟩ := hc p hp
    rw [← h2, ← h3, Store.set_ne _ _ _ _ (h.nep h1)]; exact h.maps p' h1
  · rcases h.names with h1 | ⟨r, h1, h2, h3⟩
    · exact .inl h1
    · refine .inr ⟨r, h1, by rw [Store.set_ne _ _ _ _ (h.nrp h1)]; exact h2, fun p hp => ?_⟩
      obtain ⟨p', g1, g2, -⟩ := hc p hp; rw [← g2]; exact h3 p' g1
theorem Rep.setKeys (h : Rep σ0 bc C σ bp cap (qs ++ [t]) rest nm) (ks : IM) :
    Rep σ0 bc { C with pls := qs.map (·.2) ++ [{ t.2 with keys := ks }] } (σ.set t.1 (.hmap (toV ks))) bp cap (qs ++ [(t.1, { t.2 with keys := ks })]) rest nm := by
  have ht : t ∈ qs ++ [t] := by simp
  have hnd := h.nd
  rw [List.map_append, List.nodup_append] at hnd
  refine ⟨h.le.put (h.oi t ht) _, h.oc, h.op, fun p hp => ?_, h.on, ?_, ?_, by simp, by simpa using h.nd, fun p hp => ?_, ?_, by simpa using h.cap1, h.cap2, by simpa using h.room, h.ne⟩
  · rcases List.mem_append.1 hp with hp | hp
    · exact h.oi p (List.mem_append_left _ hp)
    · simp at hp; subst hp; exact h.oi t ht
  · rw [Store.set_ne _ _ _ _ (fun e => h.nec ht e.symm), h.self]; simp
  · rw [Store.set_ne _ _ _ _ (fun e => h.nep ht e.symm), h.cells]; simp [plD]
  · rcases List.mem_append.1 hp with hp | hp
    · have : p.1 ≠ t.1 := fun e => hnd.2.2 p.1 (List.mem_map.2 ⟨p, hp, rfl⟩) t.1 (by simp) e
      rw [Store.set_ne _ _ _ _ this]; exact h.maps p (List.mem_append_left _ hp)
    · simp at hp; subst hp; simp
  · rcases h.names with h1 | ⟨r, h1, h2, h3⟩
    · exact .inl h1
    · refine .inr ⟨r, h1, by rw [Store.set_ne _ _ _ _ (fun e => h3 t ht e.symm)]; exact h2, fun p hp => ?_⟩
      rcases List.mem_append.1 hp with hp | hp
      · exact h3 p (List.mem_append_left _ hp)
      · simp at hp; subst hp; exact h3 t ht
theorem Rep.newNames (h : Rep σ0 bc C σ bp cap ps rest nm) {m : Nat} (hm : σ m = none) :
    Rep σ0 bc { C with names := [] } ((σ.set m (.hmap [])).set bc (.cells [.lit (.slice (some ⟨bp, 0, none⟩) ps.length cap), .int .i64 C.ahead, .lit (.map (some m))])) bp cap ps rest (some m) := by
  have g : ∀ x o, x ≠ bc → σ x = some o → ((σ.set m (.hmap [])).set bc (.cells [.lit (.slice (some ⟨bp, 0, none⟩) ps.length cap), .int .i64 C.ahead, .lit (.map (some m))])) x = some o := fun x o h1 h2 => by
    rw [Store.set_ne _ _ _ _ h1, Store.set_ne _ _ _ _ (fun e => by subst e; rw [hm] at h2; cases h2)]; exact h2
  have hmc : m ≠ bc := fun e => by subst e; rw [h.self] at hm; cases hm
  refine ⟨(h.le.set hm _).put h.oc _, h.oc, h.op, h.oi, fun r hr => ?_, by simp, g _ _ (fun e => h.ne e.symm) h.cells, h.pls, h.nd, fun p hp => g _ _ (h.nec hp) (h.maps p hp), .inr ⟨m, rfl, ?_, fun p hp e => ?_⟩, h.cap1, h.cap2, h.room, h.ne⟩
  · injection hr with hr; subst hr; exact h.le.none hm
  · rw [Store.set_ne _ _ _ _ hmc]; simp [toV]
  · have := h.maps p hp; rw [e, hm] at this; cases this
theorem Rep.cast (h : Rep σ0 bc C σ bp cap ps rest nm) {C' : Chk} (e : C = C') : Rep σ0 bc C' σ bp cap ps rest nm := e ▸ h
theorem Rep.push (h : Rep σ0 bc C σ bp cap ps rest nm) {m : Nat} (hm : σ m = none) {s6 : Store} {bp' cap' : Nat} {rest' : List D} (hbp : bp' = bp ∨ (σ bp' = none ∧ bp' ≠ m)) (hk : ∀ x o, x ≠ bc → x ≠ bp' → σ x = some o → s6 x = some o)
    (hmm : s6 m = some (.hmap [])) (hle : SLe σ0 s6) (hself : s6 bc = some (.cells [.lit (.slice (some ⟨bp', 0, none⟩) (ps.length + 1) cap'), .int .i64 C.ahead, .lit (.map nm)]))
    (hc : s6 bp' = some (.cells (((ps ++ [(m, (⟨[], false⟩ : Pl))]).map plD).flatten ++ rest'))) (c1 : ps.length + 1 ≤ cap') (c2 : cap' ≤ 9223372036854775807) (room : rest'.length = (cap' - (ps.length + 1)) * 2) :
    Rep σ0 bc { C with pls := C.pls ++ [⟨[], false⟩] } s6 bp' cap' (ps ++ [(m, ⟨[], false⟩)]) rest' nm := by
  have hnp : ∀ x o, x ≠ bp → σ x = some o → x ≠ bp' := fun x o h1 h2 e => by
    rcases hbp with h3 | h3
    · exact h1 (e.trans h3)
    · rw [e, h3.1] at h2; cases h2
  have hmp : ∀ p ∈ ps, s6 p.1 = some (.hmap (toV p.2.keys)) := fun p hp => hk _ _ (h.nec hp) (hnp _ _ (h.nep hp) (h.maps p hp)) (h.maps p hp)
  have hne : ∀ p ∈ ps, p.1 ≠ m := fun p hp e => by have := h.maps p hp; rw [e, hm] at this; cases this
  refine ⟨hle, h.oc, ?_, fun p hp => ?_, h.on, by simpa using hself, hc, by simp [h.pls], ?_, fun p hp => ?_, ?_, by simpa using c1, c2, by simpa using room, ?_⟩
  · rcases hbp with h1 | h1
    · rw [h1]; exact h.op
    · exact h.le.none h1.1
  · rcases List.mem_append.1 hp with hp | hp
    · exact h.oi p hp
    · simp at hp; subst hp; exact h.le.none hm
  · rw [List.map_append, List.nodup_append]
    refine ⟨h.nd, by simp, ?_⟩
    intro a ha b hb e
    subst e
    obtain ⟨p, hp, rfl⟩ := List.mem_map.1 ha
    simp at hb
    exact hne p hp hb
  · rcases List.mem_append.1 hp with hp | hp
    · exact hmp p hp
    · simp at hp; subst hp; exact hmm
  · rcases h.names with h1 | ⟨r, h1, h2, h3⟩
    · exact .inl h1
    · refine .inr ⟨r, h1, hk _ _ (h.nrc h1) (hnp _ _ (h.nrp h1) h2) h2, fun p hp => ?_⟩
      rcases List.mem_append.1 hp with hp | hp
      · exact h3 p hp
      · simp at hp; subst hp; intro e
        have e : m = r := e
        rw [e, h2] at hm; cases hm
  · intro e
    rcases hbp with h1 | h1
    · exact h.ne (e.trans h1)
    · rw [← e, h.self] at h1; cases h1.1
end

def standsC (C : Chk) (x : Ins) : Nat × Chk := match C.pls.getLast? with
  | none => (0, C)
  | some t => if t.all then (11, C) else if (isEl x.op && !decide (x.b = ⟨#[]⟩)) && decide (0 < icnt x.b t.keys) then (10, C) else if x.op = 1 ∧ 8 < C.pls.length then (12, C) else
    (0, { C with pls := C.pls.dropLast ++ [{ keys := if isEl x.op then inc x.b t.keys else t.keys, all := decide (x.op = 7) }] ++ (if x.op = 1 then [⟨[], false⟩] else []), names := if isEl x.op then [] else C.names })
theorem c_vstands (σ0 : Store) (bc : Nat) (C : Chk) (σ : Store) (x : Ins) (bp cap : Nat) (qs : List (Nat × Pl)) (t : Nat × Pl) (rest : List D) (nm : Option Nat) (h : Rep σ0 bc C σ bp cap (qs ++ [t]) rest nm) :
    HCalls Try.prog 158 [.ptr bc 0, .agg (insD x)] σ fun d s => d = errD (standsC C x).1 ∧ SLe σ0 s ∧ ((standsC C x).1 = 0 → RepAt (isEl x.op) σ0 bc (standsC C x).2 s) := by
  refine HCalls.start mixed true _ _ (fn := Try.f158) (by kernel_rfl) rfl (by kernel_rfl) rfl (by kernel_rfl) (by kernel_rfl) ?_
  have hpl : C.pls = qs.map (·.2) ++ [t.2] := by rw [← h.pls]; simp
  have hlast : C.pls.getLast? = some t.2 := by rw [hpl]; simp
  have hdl : C.pls.dropLast = qs.map (·.2) := by rw [hpl]; simp
  have hplen : C.pls.length = qs.length + 1 := by rw [hpl]; simp
  have hfl := flat_length plD 2 plD_length qs
  have hcap1 := h.cap1
  have hcap2 := h.cap2
  simp only [List.length_append, List.length_cons, List.length_nil] at hcap1
  have e2 : IntKind.i64.wrap ((qs.length : Int) + 1 - 1) = qs.length := by rw [wrap_i64] <;> omega
  have e3 : IntKind.i64.wrap (qs.length : Int) = qs.length := by rw [wrap_i64] <;> omega
  simp (maxSteps := 2000000) +contextual [insD_def, -decide_eq_true_eq, -decide_eq_false_iff_not]
  intro b hb
  have h1 : Rep σ0 bc C (σ.set b (.cells (insD x))) bp cap (qs ++ [t]) rest nm := h.box hb _
  have hb1 : (σ.set b (.cells (insD x))) b = some (.cells (insD x)) := by simp
  rw [← insD_def]
  generalize hs1 : σ.set b (.cells (insD x)) = s1 at h1 hb1 ⊢
  have hself := h1.self
  have hcells := h1.cells2
  simp only [List.length_append, List.length_cons, List.length_nil] at hself
  generalize hDS : (qs.map plD).flatten ++ (.lit (.map (some t.1)) :: .bool t.2.all :: rest) = DS at hcells
  have hd0 : List.drop (qs.length * 2) DS = .lit (.map (some t.1)) :: .bool t.2.all :: rest := by rw [← hDS, ← hfl, List.drop_left' rfl]
  have hd1 : List.drop (qs.length * 2 + 1) DS = .bool t.2.all :: rest := by rw [← List.drop_drop, hd0]; rfl
  have hdl2 : DS.length = qs.length * 2 + 2 + rest.length := by rw [← hDS, List.length_append, hfl]; simp; omega
  have hl1 : qs.length * 2 + 1 + 1 ≤ DS.length := by omega
  have hl0 : qs.length * 2 + 1 ≤ DS.length := by omega
  have hkm := h1.maps t (by simp)
  refine hdraw_intro (by kernel_rfl) ?_
  have h3 : x.op = 1 ∨ (¬ x.op = 1 ∧ x.op = 3) ∨ (¬ x.op = 1 ∧ ¬ x.op = 3) := by omega
  have hle1 := h1.le
  cases hall : t.2.all with
  | true =>
    have hst : standsC C x = (11, C) := by simp [standsC, hlast, hall]
    rw [hst]
    rcases h3 with h3 | h3 | h3
    all_goals
      simp (maxSteps := 2000000) +contextual [hself, hb1, hcells, e2, e3, hd0, hd1, hl1, hl0, insD_def, hkm, hall, h3, -decide_eq_true_eq, -decide_eq_false_iff_not]
      exact ⟨by omega, _, SLe.refl _, rfl, hle1⟩
  | false =>
    cases hkey : (isEl x.op && !decide (x.b = ⟨#[]⟩)) && decide (0 < icnt x.b t.2.keys) with
    | true =>
      have hst : standsC C x = (10, C) := by simp only [standsC, hlast, hall, hkey]; rfl
      rw [hst]
      simp only [Bool.and_eq_true, Bool.not_eq_true', decide_eq_true_eq, decide_eq_false_iff_not] at hkey
      obtain ⟨⟨k1, k2⟩, k3⟩ := hkey
      rcases h3 with h3 | h3 | h3
      focus
        simp (maxSteps := 2000000) +contextual [hself, hb1, hcells, e2, e3, hd0, hd1, hl1, hl0, insD_def, hkm, hall, h3, -decide_eq_true_eq, -decide_eq_false_iff_not]
      rotate_left
      focus
        simp (maxSteps := 2000000) +contextual [hself, hb1, hcells, e2, e3, hd0, hd1, hl1, hl0, insD_def, hkm, hall, h3, -decide_eq_true_eq, -decide_eq_false_iff_not]
      rotate_left
      focus
        exfalso; simp [isEl, h3] at k1
      all_goals
        refine ⟨by omega, ?_⟩
        refine hdraw_intro (by kernel_rfl) ?_
        simp (maxSteps := 2000000) +contextual [hself, hb1, hcells, e2, e3, hd0, hd1, hl1, hl0, insD_def, hkm, hall, h3, k2, k3, -decide_eq_true_eq, -decide_eq_false_iff_not]
        exact ⟨_, SLe.refl _, rfl, hle1⟩
    | false =>
      have hsp : ∀ v : D, spl DS (qs.length * 2 + 1) [v] = (qs.map plD).flatten ++ (.lit (.map (some t.1)) :: v :: rest) := fun v => by
        unfold spl
        have e1 : DS.take (qs.length * 2 + 1) = (qs.map plD).flatten ++ [.lit (.map (some t.1))] := by
          rw [← hDS, ← hfl, List.take_length_add_append]; rfl
        have e2 : DS.drop (qs.length * 2 + 1 + [v].length) = rest := by
          rw [← List.drop_drop, hd1]; rfl
        rw [e1, e2]; simp
      by_cases hdeep : x.op = 1 ∧ 8 < C.pls.length
      · have hst : standsC C x = (12, C) := by simp only [standsC, hlast, hall, hkey]; rw [if_pos hdeep]; rfl
        rw [hst]
        obtain ⟨g1, g2⟩ := hdeep
        have g3 : (8 : Int) < (qs.length : Int) + 1 := by omega
        simp (maxSteps := 2000000) +contextual [hself, hb1, hcells, e2, e3, hd0, hd1, hl1, hl0, insD_def, hkm, hall, g1, -decide_eq_true_eq, -decide_eq_false_iff_not]
        refine ⟨by omega, ?_⟩
        refine hdraw_intro (by kernel_rfl) ?_
        have hk2 : x.b = ⟨#[]⟩ ∨ (¬ x.b = ⟨#[]⟩ ∧ ¬ 0 < icnt x.b t.2.keys) := by
          by_cases hb : x.b = ⟨#[]⟩
          · exact .inl hb
          · refine .inr ⟨hb, fun hc => ?_⟩
            simp [isEl, g1, hb, hc] at hkey
        rcases hk2 with hk2 | hk2
        all_goals
          simp (maxSteps := 2000000) +contextual [hself, hb1, hcells, e2, e3, hd0, hd1, hl1, hl0, insD_def, hkm, hall, g1, hk2, g3, -decide_eq_true_eq, -decide_eq_false_iff_not]
          exact ⟨_, SLe.refl _, rfl, hle1⟩
      · have hst : standsC C x = (0, { C with pls := qs.map (·.2) ++ [{ keys := if isEl x.op then inc x.b t.2.keys else t.2.keys, all := decide (x.op = 7) }] ++ (if x.op = 1 then [⟨[], false⟩] else []), names := if isEl x.op then [] else C.names }) := by
          simp only [standsC, hlast, hall, hkey]; rw [if_neg hdeep, hdl]; rfl
        rw [hst]
        have hR2 := h1.setAll (decide (x.op = 7))
        have hbp : b ≠ bp := fun e => by subst e; rw [h.cells] at hb; cases hb
        have hbc : b ≠ bc := fun e => by subst e; rw [h.self] at hb; cases hb
        have hb2 : (s1.set bp (.cells ((qs.map plD).flatten ++ (.lit (.map (some t.1)) :: .bool (decide (x.op = 7)) :: rest)))) b = some (.cells [.int .i64 x.op, .str x.a, .str x.b]) := by
          rw [Store.set_ne _ _ _ _ hbp, hb1]; rfl
        have hk2 : isEl x.op = true → x.b = ⟨#[]⟩ ∨ (¬ x.b = ⟨#[]⟩ ∧ ¬ 0 < icnt x.b t.2.keys) := fun he => by
          by_cases hb : x.b = ⟨#[]⟩
          · exact .inl hb
          · refine .inr ⟨hb, fun hc => ?_⟩
            simp [he, hb, hc] at hkey
        rcases h3 with h3 | h3 | h3
        · have he : isEl x.op = true := by simp [isEl, h3]
          have h7 : decide (x.op = 7) = false := by simp [h3]
          rw [h7] at hR2 hb2
          have g3 : ¬ (8 : Int) < (qs.length : Int) + 1 := by have := fun hh => hdeep ⟨h3, hh⟩; omega
          simp (maxSteps := 2000000) +contextual [hself, hb1, hcells, e2, e3, hd0, hd1, hl1, hl0, insD_def, hkm, hall, h3, -decide_eq_true_eq, -decide_eq_false_iff_not]
          refine ⟨by omega, ?_⟩
          refine hdraw_intro (by kernel_rfl) ?_
          have hd0' : List.drop (qs.length * 2) ((qs.map plD).flatten ++ (D.lit (.map (some t.1)) :: D.bool false :: rest)) = .lit (.map (some t.1)) :: D.bool false :: rest := by rw [← hfl, List.drop_left' rfl]
          have htc : t.1 ≠ bc := h1.nec (by simp)
          have htp : t.1 ≠ bp := h1.nep (by simp)
          have htb : t.1 ≠ b := fun e => by have := h.maps t (by simp); rw [e, hb] at this; cases this
          rcases hk2 he with hk2 | hk2
          all_goals
            simp (maxSteps := 2000000) +contextual [hself, hb1, hcells, e2, e3, hd0, hd1, hl1, hl0, insD_def, hkm, hall, h3, hk2, hsp, h1.ne, g3, -decide_eq_true_eq, -decide_eq_false_iff_not]
            generalize hs2 : s1.set bp (.cells ((qs.map plD).flatten ++ (D.lit (.map (some t.1)) :: D.bool false :: rest))) = s2 at hR2 hb2 ⊢
            have hc2 := hR2.cells2
            simp only [Nat.reduceAdd] at hc2
            have hm2 := hR2.maps (t.1, { t.2 with all := false }) (by simp)
            simp only at hm2
            refine hdraw_cut 8 s2 (SLe.refl _) (by kernel_rfl) (by kernel_rfl) ?_
            simp (maxSteps := 2000000) +contextual [hc2, hb2, hd0', hm2, insD_def, -decide_eq_true_eq, -decide_eq_false_iff_not]
            refine ⟨fun _ => none, (fun _ _ h => by cases h), (fun _ _ h => by cases h), ?_⟩
            rw [mput_toV]
            have hR3 := hR2.setKeys (inc x.b t.2.keys)
            have hb3 : (s2.set t.1 (.hmap (toV (inc x.b t.2.keys)))) b = some (.cells [.int .i64 x.op, .str x.a, .str x.b]) := by rw [Store.set_ne _ _ _ _ (fun e => htb e.symm), hb2]
            intro m hmt hmn
            have hm3 : (s2.set t.1 (.hmap (toV (inc x.b t.2.keys)))) m = none := by rw [Store.set_ne _ _ _ _ hmt, hmn]
            unfold inc at hR3 hb3 hm3
            generalize hs3 : s2.set t.1 (.hmap (toV (iput x.b (IntKind.i64.wrap (icnt x.b t.2.keys + 1)) t.2.keys))) = s3 at hR3 hb3 hm3 ⊢
            have hR4 := hR3.newNames hm3
            have hself3 := hR3.self
            simp only [List.length_append, List.length_cons, List.length_nil] at hself3 hR4
            have hbm : b ≠ m := fun e => by subst e; rw [hm3] at hb3; cases hb3
            have hcm : bc ≠ m := fun e => by subst e; rw [hm3] at hself3; cases hself3
            have hb4 : ((s3.set m (.hmap [])).set bc (.cells [.lit (.slice (some ⟨bp, 0, none⟩) (qs.length + 1) cap), .int .i64 C.ahead, .lit (.map (some m))])) b = some (.cells [.int .i64 x.op, .str x.a, .str x.b]) := by
              rw [Store.set_ne _ _ _ _ hbc, Store.set_ne _ _ _ _ hbm, hb3]
            simp (maxSteps := 2000000) +contextual [hself3, hcm, hb4, h3, -decide_eq_true_eq, -decide_eq_false_iff_not]
            generalize hs4 : (s3.set m (.hmap [])).set bc (.cells [.lit (.slice (some ⟨bp, 0, none⟩) (qs.length + 1) cap), .int .i64 C.ahead, .lit (.map (some m))]) = s4 at hR4 hb4 ⊢
            intro m1 hm1c hm1m hm1
            have hm14 : s4 m1 = none := by rw [← hs4, Store.set_ne _ _ _ _ hm1c, Store.set_ne _ _ _ _ hm1m]; exact hm1
            intro b2 hb2m1 hb2c hb2m hb2n
            have hb24 : s4 b2 = none := by rw [← hs4, Store.set_ne _ _ _ _ hb2c, Store.set_ne _ _ _ _ hb2m]; exact hb2n
            have hle5 : SLe s4 ((s4.set m1 (.hmap [])).set b2 (.cells [.lit (.map (some m1)), D.bool false])) := ((SLe.refl s4).set hm14 _).set (by rw [Store.set_ne _ _ _ _ hb2m1]; exact hb24) _
            have hm5 : ((s4.set m1 (.hmap [])).set b2 (.cells [.lit (.map (some m1)), D.bool false])) m1 = some (.hmap []) := by
              rw [Store.set_ne _ _ _ _ (fun e => hb2m1 e.symm), Store.set_same]
            generalize hs5 : (s4.set m1 (.hmap [])).set b2 (.cells [.lit (.map (some m1)), D.bool false]) = s5 at hle5 hm5 ⊢
            have hbp5 := hle5 _ _ hR4.cells
            have hbc5 := hle5 _ _ hR4.self
            have hplen2 : (qs ++ [(t.1, ({ keys := iput x.b (IntKind.i64.wrap (icnt x.b t.2.keys + 1)) t.2.keys, all := false } : Pl))]).length = qs.length + 1 := by simp
            have hroom4 := hR4.room
            rw [hplen2] at hroom4
            rw [hplen2] at hbc5
            generalize hps4 : qs ++ [(t.1, ({ keys := iput x.b (IntKind.i64.wrap (icnt x.b t.2.keys + 1)) t.2.keys, all := false } : Pl))] = ps4 at hR4 hbp5 hplen2
            have hfl4 := flat_length plD 2 plD_length ps4
            have hm1p : bp ≠ m1 := fun e => by subst e; rw [hR4.cells] at hm14; cases hm14
            have hm1c' : m1 ≠ bc := hm1c
            have hk9 : qs.length + 1 ≤ 8 := by omega
            rw [hbp5, appL_cells]
            refine ⟨⟨hcap1, ?_, ?_, ?_⟩, fun hrm => ?_, fun hgr z hz b' c' hb' hc1' hc2' => ?_⟩
            · rw [flatP_length, hplen2, hroom4]; simp; omega
            · simp; omega
            · simp; omega
            · have hspl : spl ((ps4.map plD).flatten ++ rest) ((qs.length + 1) * 2) [D.lit (.map (some m1)), D.bool false] = ((ps4 ++ [(m1, (⟨[], false⟩ : Pl))]).map plD).flatten ++ rest.drop 2 := by
                unfold spl
                rw [hplen2] at hfl4
                rw [← hfl4, List.take_left' rfl, ← List.drop_drop, List.drop_left' rfl]
                simp [plD]
              have hcb : bc ≠ bp := h1.ne
              simp (maxSteps := 2000000) +contextual [hbc5, hcb, hspl, -decide_eq_true_eq, -decide_eq_false_iff_not]
              refine ⟨_, SLe.refl _, ?_, ?_⟩
              · exact ((hR4.le.trans hle5).put hR4.op _).put hR4.oc _
              · have he1 : isEl 1 = true := by decide
                simp only [he, he1, h3, if_true]
                refine ⟨bp, cap, _, rest.drop 2, some m, (hR4.push hm14 (.inl rfl) (fun y o g1 g2 g3 => ?_) ?_ ?_ ?_ ?_ ?_ hcap2 ?_).cast ?_, (fun _ => by simp), by simp⟩
                · rw [Store.set_ne _ _ _ _ g1, Store.set_ne _ _ _ _ g2]; exact hle5 _ _ g3
                · rw [Store.set_ne _ _ _ _ hm1c', Store.set_ne _ _ _ _ (fun e => hm1p e.symm)]; exact hm5
                · exact ((hR4.le.trans hle5).put hR4.op _).put hR4.oc _
                · rw [Store.set_same, hplen2]
                · rw [Store.set_ne _ _ _ _ (fun e => hcb e.symm), Store.set_same]; simp
                · rw [hplen2]; simpa using hrm
                · rw [List.length_drop, hroom4, hplen2]; omega
                · simp [inc]
            · injection hz with hz
              subst hz
              have htk : List.take ((qs.length + 1) * 2) ((ps4.map plD).flatten ++ rest) = (ps4.map plD).flatten := by
                rw [hplen2] at hfl4
                rw [← hfl4, List.take_left' rfl]
              have hcb : bc ≠ b' := fun e => by subst e; rw [hbc5] at hb'; cases hb'
              have hmb : m1 ≠ b' := fun e => by subst e; rw [hm5] at hb'; cases hb'
              have hb4' : s4 b' = none := hle5.none hb'
              simp (maxSteps := 2000000) +contextual [hbc5, hcb, htk, -decide_eq_true_eq, -decide_eq_false_iff_not]
              refine ⟨_, SLe.refl _, ?_, ?_⟩
              · exact ((hR4.le.trans hle5).set hb' _).put hR4.oc _
              · have he1 : isEl 1 = true := by decide
                simp only [he, he1, h3, if_true]
                refine ⟨b', c', _, zrep (c' - (qs.length + 1 + 1)) [D.lit (.map none), D.bool false], some m, (hR4.push hm14 (.inr ⟨hb4', fun e => hmb e.symm⟩) (fun y o g1 g2 g3 => ?_) ?_ ?_ ?_ ?_ ?_ ?_ ?_).cast ?_, (fun _ => by simp), by simp⟩
                · rw [Store.set_ne _ _ _ _ g1, Store.set_ne _ _ _ _ g2]; exact hle5 _ _ g3
                · rw [Store.set_ne _ _ _ _ hm1c', Store.set_ne _ _ _ _ hmb]; exact hm5
                · exact ((hR4.le.trans hle5).set hb' _).put hR4.oc _
                · rw [Store.set_same, hplen2]
                · rw [Store.set_ne _ _ _ _ (fun e => hcb e.symm), Store.set_same]; simp [plD]
                · rw [hplen2]; simpa using hc1'
                · exact hc2'
                · rw [zrep_len, hplen2]; rfl
                · simp [inc]
        · have he : isEl x.op = true := by simp [isEl, h3]
          have h7 : decide (x.op = 7) = false := by simp [h3]
          rw [h7] at hR2 hb2
          simp (maxSteps := 2000000) +contextual [hself, hb1, hcells, e2, e3, hd0, hd1, hl1, hl0, insD_def, hkm, hall, h3, -decide_eq_true_eq, -decide_eq_false_iff_not]
          refine ⟨by omega, ?_⟩
          refine hdraw_intro (by kernel_rfl) ?_
          have hd0' : List.drop (qs.length * 2) ((qs.map plD).flatten ++ (D.lit (.map (some t.1)) :: D.bool false :: rest)) = .lit (.map (some t.1)) :: D.bool false :: rest := by rw [← hfl, List.drop_left' rfl]
          have htc : t.1 ≠ bc := h1.nec (by simp)
          have htp : t.1 ≠ bp := h1.nep (by simp)
          have htb : t.1 ≠ b := fun e => by have := h.maps t (by simp); rw [e, hb] at this; cases this
          rcases hk2 he with hk2 | hk2
          all_goals
            simp (maxSteps := 2000000) +contextual [hself, hb1, hcells, e2, e3, hd0, hd1, hl1, hl0, insD_def, hkm, hall, h3, hk2, hsp, h1.ne, -decide_eq_true_eq, -decide_eq_false_iff_not]
            generalize hs2 : s1.set bp (.cells ((qs.map plD).flatten ++ (D.lit (.map (some t.1)) :: D.bool false :: rest))) = s2 at hR2 hb2 ⊢
            have hc2 := hR2.cells2
            simp only [Nat.reduceAdd] at hc2
            have hm2 := hR2.maps (t.1, { t.2 with all := false }) (by simp)
            simp only at hm2
            refine hdraw_cut 8 s2 (SLe.refl _) (by kernel_rfl) (by kernel_rfl) ?_
            simp (maxSteps := 2000000) +contextual [hc2, hb2, hd0', hm2, insD_def, -decide_eq_true_eq, -decide_eq_false_iff_not]
            refine ⟨fun _ => none, (fun _ _ h => by cases h), (fun _ _ h => by cases h), ?_⟩
            rw [mput_toV]
            have hR3 := hR2.setKeys (inc x.b t.2.keys)
            have hb3 : (s2.set t.1 (.hmap (toV (inc x.b t.2.keys)))) b = some (.cells [.int .i64 x.op, .str x.a, .str x.b]) := by rw [Store.set_ne _ _ _ _ (fun e => htb e.symm), hb2]
            intro m hmt hmn
            have hm3 : (s2.set t.1 (.hmap (toV (inc x.b t.2.keys)))) m = none := by rw [Store.set_ne _ _ _ _ hmt, hmn]
            unfold inc at hR3 hb3 hm3
            generalize hs3 : s2.set t.1 (.hmap (toV (iput x.b (IntKind.i64.wrap (icnt x.b t.2.keys + 1)) t.2.keys))) = s3 at hR3 hb3 hm3 ⊢
            have hR4 := hR3.newNames hm3
            have hself3 := hR3.self
            simp only [List.length_append, List.length_cons, List.length_nil] at hself3 hR4
            have hbm : b ≠ m := fun e => by subst e; rw [hm3] at hb3; cases hb3
            have hcm : bc ≠ m := fun e => by subst e; rw [hm3] at hself3; cases hself3
            have hb4 : ((s3.set m (.hmap [])).set bc (.cells [.lit (.slice (some ⟨bp, 0, none⟩) (qs.length + 1) cap), .int .i64 C.ahead, .lit (.map (some m))])) b = some (.cells [.int .i64 x.op, .str x.a, .str x.b]) := by
              rw [Store.set_ne _ _ _ _ hbc, Store.set_ne _ _ _ _ hbm, hb3]
            simp (maxSteps := 2000000) +contextual [hself3, hcm, hb4, h3, -decide_eq_true_eq, -decide_eq_false_iff_not]
            refine ⟨_, SLe.refl _, hR4.le, ?_⟩
            have he3 : isEl 3 = true := by decide
            simp only [he3, if_true]
            exact ⟨bp, cap, _, rest, some m, hR4, (fun _ => by simp), by simp⟩
        · have he : isEl x.op = false := by simp [isEl, h3]
          simp (maxSteps := 2000000) +contextual [hself, hb1, hcells, e2, e3, hd0, hd1, hl1, hl0, insD_def, hkm, hall, h3, -decide_eq_true_eq, -decide_eq_false_iff_not]
          refine ⟨by omega, ?_⟩
          refine hdraw_intro (by kernel_rfl) ?_
          simp (maxSteps := 2000000) +contextual [hself, hb1, hcells, e2, e3, hd0, hd1, hl1, hl0, insD_def, hkm, hall, h3, hsp, h1.ne, hb2, -decide_eq_true_eq, -decide_eq_false_iff_not]
          refine ⟨_, SLe.refl _, hR2.le, ?_⟩
          simp only [he, Bool.false_eq_true, if_false, h3.1, List.append_nil]
          exact ⟨bp, cap, _, rest, nm, hR2, (fun h => by simp at h), by simp⟩

def oneC (C : Chk) (x : Ins) : Nat × Chk :=
  if mayIns x then
    if isTell x.op then match attrC C x with | none => (9, C) | some C' => (0, C')
    else if x.op = 2 then if C.pls.length = 1 then (8, C) else (0, { C with pls := C.pls.dropLast })
    else standsC C x
  else (7, C)
/-- The checker, with a place, and names where they are wanted. -/
def Ready (σ0 : Store) (bc : Nat) (C : Chk) (s : Store) : Prop := ∃ bp cap ps rest nm, Rep σ0 bc C s bp cap ps rest nm ∧ C.named nm ∧ ps ≠ []
theorem c_vone (σ0 : Store) (bc : Nat) (C : Chk) (σ : Store) (x : Ins) (hx : FitI x) (h : Ready σ0 bc C σ) :
    HCalls Try.prog 139 [.ptr bc 0, .agg (insD x)] σ fun d s => d = errD (oneC C x).1 ∧ SLe σ0 s ∧ ((oneC C x).1 = 0 → RepAt (isEl x.op || isTell x.op) σ0 bc (oneC C x).2 s) := by
  obtain ⟨bp, cap, ps, rest, nm, h, hn, hne⟩ := h
  obtain ⟨qs, t, rfl⟩ : ∃ qs t, ps = qs ++ [t] := ⟨ps.dropLast, ps.getLast hne, (List.dropLast_concat_getLast hne).symm⟩
  have hpl : C.pls = qs.map (·.2) ++ [t.2] := by rw [← h.pls]; simp
  have hplen : C.pls.length = qs.length + 1 := by rw [hpl]; simp
  refine HCalls.start mixed true _ _ (fn := Try.f139) (by kernel_rfl) rfl (by kernel_rfl) rfl (by kernel_rfl) (by kernel_rfl) ?_
  simp (maxSteps := 2000000) +contextual [insD_def, -decide_eq_true_eq, -decide_eq_false_iff_not]
  intro b hb
  have h1 : Rep σ0 bc C (σ.set b (.cells (insD x))) bp cap (qs ++ [t]) rest nm := h.box hb _
  have hb1 : (σ.set b (.cells (insD x))) b = some (.cells (insD x)) := by simp
  rw [← insD_def]
  generalize hs1 : σ.set b (.cells (insD x)) = s1 at h1 hb1 ⊢
  refine c_mayI x hx _ _ ?_
  cases hm : mayIns x with
  | false =>
    simp (maxSteps := 2000000) +contextual [insD_def, hb1, -decide_eq_true_eq, -decide_eq_false_iff_not]
    refine ⟨_, SLe.refl _, ?_⟩
    have ho : oneC C x = (7, C) := by simp [oneC, hm]
    rw [ho]
    exact ⟨rfl, h1.le, fun hh => by cases hh⟩
  | true =>
    simp (maxSteps := 2000000) +contextual [insD_def, hb1, -decide_eq_true_eq, -decide_eq_false_iff_not]
    refine c_tells _ _ _ ?_
    cases ht : (decide (x.op = 5) || decide (x.op = 6)) with
    | true =>
      simp (maxSteps := 2000000) +contextual [insD_def, hb1, -decide_eq_true_eq, -decide_eq_false_iff_not]
      rw [← insD_def]
      refine (c_vattr σ0 bc C s1 x bp cap _ rest nm h1 hn).mono ?_
      intro d s hd
      have ho : oneC C x = match attrC C x with | none => (9, C) | some C' => (0, C') := by simp [oneC, hm, isTell, ht]
      rw [ho]
      cases ha : attrC C x with
      | none =>
        rw [ha] at hd
        obtain ⟨rfl, hd⟩ := hd
        simp (maxSteps := 2000000) +contextual [-decide_eq_true_eq, -decide_eq_false_iff_not]
        exact ⟨_, SLe.refl _, hd⟩
      | some C' =>
        rw [ha] at hd
        obtain ⟨rfl, hd⟩ := hd
        simp (maxSteps := 2000000) +contextual [-decide_eq_true_eq, -decide_eq_false_iff_not]
        have hel : (isEl C.ahead || isTell C.ahead) = true := by
          cases he : (isEl C.ahead || isTell C.ahead) with
          | true => rfl
          | false => simp [attrC, he] at ha
        exact ⟨_, SLe.refl _, hd.le, _, _, _, _, _, hd, fun _ => hn hel, by simp⟩
    | false =>
      by_cases h2 : x.op = 2
      · simp (maxSteps := 2000000) +contextual [insD_def, hb1, h2, -decide_eq_true_eq, -decide_eq_false_iff_not]
        refine (c_vends σ0 bc C s1 bp cap qs t rest nm h1).mono ?_
        intro d s hd
        have ho : oneC C x = if C.pls.length = 1 then (8, C) else (0, { C with pls := C.pls.dropLast }) := by simp [oneC, hm, isTell, h2]
        rw [ho]
        by_cases hq : qs = []
        · rw [if_pos hq] at hd
          obtain ⟨rfl, hd⟩ := hd
          rw [if_pos (by rw [hplen, hq]; rfl)]
          simp (maxSteps := 2000000) +contextual [-decide_eq_true_eq, -decide_eq_false_iff_not]
          exact ⟨_, SLe.refl _, hd⟩
        · rw [if_neg hq] at hd
          obtain ⟨rfl, hd⟩ := hd
          have : ¬ C.pls.length = 1 := fun e => hq (List.eq_nil_of_length_eq_zero (by omega))
          rw [if_neg this]
          simp (maxSteps := 2000000) +contextual [-decide_eq_true_eq, -decide_eq_false_iff_not]
          exact ⟨_, SLe.refl _, hd.le, _, _, _, _, _, hd, (fun h => by simp [isEl, isTell, h2] at h), hq⟩
      · simp (maxSteps := 2000000) +contextual [insD_def, hb1, h2, -decide_eq_true_eq, -decide_eq_false_iff_not]
        rw [← insD_def]
        refine (c_vstands σ0 bc C s1 x bp cap qs t rest nm h1).mono ?_
        rintro d s ⟨rfl, h4, h5⟩
        have ho : oneC C x = standsC C x := by simp [oneC, hm, isTell, ht, h2]
        rw [ho]
        simp (maxSteps := 2000000) +contextual [-decide_eq_true_eq, -decide_eq_false_iff_not]
        refine ⟨_, SLe.refl _, h4, fun h => ?_⟩
        have e : isTell x.op = false := ht
        rw [e, Bool.or_false]
        exact h5 h

theorem Rep.weaken {σ0 σ1 : Store} {bc : Nat} {C : Chk} {σ : Store} {bp cap : Nat} {ps : List (Nat × Pl)} {rest : List D} {nm : Option Nat} (h : Rep σ1 bc C σ bp cap ps rest nm) (hs : SLe σ0 σ1) : Rep σ0 bc C σ bp cap ps rest nm :=
  ⟨hs.trans h.le, hs.none h.oc, hs.none h.op, fun p hp => hs.none (h.oi p hp), fun r hr => hs.none (h.on r hr), h.self, h.cells, h.pls, h.nd, h.maps, h.names, h.cap1, h.cap2, h.room, h.ne⟩
theorem Rep.base {σ0 : Store} {bc : Nat} {C : Chk} {σ : Store} {bp cap : Nat} {ps : List (Nat × Pl)} {rest : List D} {nm : Option Nat} (h : Rep σ0 bc C σ bp cap ps rest nm) {b : Nat} (hb : σ b = none) (o : HObj) : Rep (σ0.set b o) bc C (σ.set b o) bp cap ps rest nm := by
  have g := h.box hb o
  have n : ∀ x, σ x ≠ none → σ0 x = none → (σ0.set b o) x = none := fun x h1 h2 => by
    rw [Store.set_ne _ _ _ _ (fun e => h1 (by rw [e]; exact hb))]; exact h2
  refine ⟨SLe_drop h.le b, n _ (by rw [h.self]; simp) h.oc, n _ (by rw [h.cells]; simp) h.op, fun p hp => n _ (by rw [h.maps p hp]; simp) (h.oi p hp), fun r hr => n _ ?_ (h.on r hr), g.self, g.cells, g.pls, g.nd, g.maps, g.names, g.cap1, g.cap2, g.room, g.ne⟩
  rcases h.names with ⟨h1, -⟩ | ⟨r', h1, h2, -⟩
  · rw [h1] at hr; cases hr
  · rw [h1] at hr; injection hr with hr; subst hr; rw [h2]; simp
/-- The first error of a program, and the checker behind it. -/
def runC (C : Chk) : List Ins → Nat × Chk
  | [] => (0, C)
  | x :: l => if (oneC C x).1 = 0 then runC { (oneC C x).2 with ahead := x.op } l else oneC C x
def chk0 : Chk := ⟨[⟨[], false⟩], 0, []⟩
def chkP (l : List Ins) : Nat := if 120 < l.length then 13 else if (runC chk0 l).1 = 0 then if 1 < (runC chk0 l).2.pls.length then 8 else 0 else (runC chk0 l).1
theorem c_check (l : List Ins) (t0 : Tok) (hl : FitL l) : Ret Try.prog 113 [.list (l.map insD) t0] (errD (chkP l)) := by
  refine Ret.of fun σ => ?_
  refine HCalls.start mixed true _ _ (fn := Try.f113) (by kernel_rfl) rfl (by kernel_rfl) rfl (by kernel_rfl) (by kernel_rfl) ?_
  have hl1 := hl.1
  by_cases h120 : 120 < l.length
  · have h2 : (120 : Int) < l.length := by omega
    have : chkP l = 13 := by simp [chkP, h120]
    rw [this]
    simp (maxSteps := 2000000) +contextual [h2, errD, -decide_eq_true_eq, -decide_eq_false_iff_not]
  · have h2 : ¬ (120 : Int) < l.length := by omega
    simp (maxSteps := 2000000) +contextual [h2, -decide_eq_true_eq, -decide_eq_false_iff_not]
    intro m hm bp n1 hbp bc n2 n3 hbc
    have hR0 : Rep σ bc chk0 (((σ.set m (.hmap [])).set bp (.cells [.lit (.map (some m)), D.bool false])).set bc (.cells [.lit (.slice (some ⟨bp, 0, none⟩) 1 1), D.int .i64 0, .lit (.map none)])) bp 1 [(m, ⟨[], false⟩)] [] none := by
      have hmb : m ≠ bp := fun e => n1 e.symm
      have hmc : m ≠ bc := fun e => n3 e.symm
      have hbb : bp ≠ bc := fun e => n2 e.symm
      refine ⟨(((SLe.refl σ).set hm _).put hbp _).put hbc _, hbc, hbp, by simpa using hm, (fun r hr => by cases hr), by simp [chk0], ?_, rfl, by simp, ?_, .inl ⟨rfl, rfl⟩, by simp, by simp, by simp, fun e => hbb e.symm⟩
      · rw [Store.set_ne _ _ _ _ hbb]; simp [plD]
      · intro p hp
        simp at hp; subst hp
        rw [Store.set_ne _ _ _ _ hmc, Store.set_ne _ _ _ _ hmb]; simp [toV]
    refine hloop_intro (fun n e s => ∃ (i : Nat) (C : Chk), i + n = l.length ∧ e 3 = .ptr bc 0 ∧ e 16 = .list (l.map insD) t0 ∧ e 17 = .int .i64 l.length ∧ e 18 = .int .i64 i ∧ Ready σ bc C s ∧ runC chk0 l = runC C (l.drop i)) l.length ?_ ?_
    · refine ⟨0, chk0, by simp, ?_⟩
      simp (maxSteps := 2000000) +contextual [-decide_eq_true_eq, -decide_eq_false_iff_not]
      exact ⟨_, _, _, _, _, hR0, (fun h => by simp [chk0, isEl, isTell] at h), by simp⟩
    · rintro n e s ⟨i, C, hi, e3, e16, e17, e18, hR, hrun⟩
      obtain ⟨bp, cap, ps, rest, nm, hR, hn, hne⟩ := hR
      simp (maxSteps := 2000000) +contextual [e3, e16, e17, e18, insD_length, -decide_eq_true_eq, -decide_eq_false_iff_not]
      refine ⟨fun h4 => ⟨by simpa using h4, fun x hx b hb => ?_⟩, fun h4 => ?_⟩
      · have h4 := dec_t h4
        have hdrop : l.drop i = x :: l.drop (i + 1) := by
          rw [List.drop_eq_getElem_cons h4]
          have := List.getElem?_eq_getElem h4
          rw [hx] at this; injection this with this; rw [← this]
        have hb1 := hR.base hb (.cells (insD x))
        simp (maxSteps := 2000000) +contextual [insD_def, e3, e16, e17, e18, -decide_eq_true_eq, -decide_eq_false_iff_not]
        rw [← insD_def]
        refine (c_vone _ bc C _ x (hl.i (List.mem_of_getElem? hx)) ⟨bp, cap, ps, rest, nm, hb1, hn, hne⟩).mono ?_
        rintro d s2 ⟨rfl, hle2, hnext⟩
        have hrun2 : runC C (l.drop i) = if (oneC C x).1 = 0 then runC { (oneC C x).2 with ahead := x.op } (l.drop (i + 1)) else oneC C x := by rw [hdrop]; rfl
        have hbc0 : bc ≠ b := fun e => by subst e; rw [hR.self] at hb; cases hb
        have hs2b : s2 b = some (.cells (insD x)) := hle2 _ _ (by simp)
        have hle3 : SLe σ s2 := ((SLe.refl σ).set (hR.le.none hb) _).trans hle2
        by_cases h0 : (oneC C x).1 = 0
        · rw [h0]
          rw [if_pos h0] at hrun2
          obtain ⟨bp2, cap2, ps2, rest2, nm2, hR2, hnm2, hne2⟩ := hnext h0
          have hself2 := hR2.self
          have hR3 := (hR2.weaken ((SLe.refl σ).set (hR.le.none hb) _)).own x.op
          simp (maxSteps := 2000000) +contextual [e3, e16, e17, e18, hs2b, insD_def, hself2, -decide_eq_true_eq, -decide_eq_false_iff_not]
          refine ⟨n - 1, by omega, _, SLe.refl _, i + 1, by omega, by rw [wrap_i64] <;> omega, _, ⟨bp2, cap2, ps2, rest2, nm2, hR3, hnm2, hne2⟩, ?_⟩
          rw [hrun, hrun2]
        · have hee : errD (oneC C x).1 = .lit (.iface 62 (.int .i64 (oneC C x).1)) := by simp [errD, h0]
          rw [hee]
          simp (maxSteps := 2000000) +contextual [e3, e16, e17, e18, -decide_eq_true_eq, -decide_eq_false_iff_not]
          refine ⟨hle3, ?_⟩
          rw [if_neg h0] at hrun2
          have : chkP l = (oneC C x).1 := by simp [chkP, h120, hrun, hrun2, h0]
          rw [this, hee]
      · have h4 := dec_f h4
        have hdr : l.drop i = [] := List.drop_eq_nil_of_le (by omega)
        rw [hdr] at hrun
        have hself := hR.self
        have hlen : C.pls.length = ps.length := by rw [← hR.pls]; simp
        have hchk : chkP l = if 1 < C.pls.length then 8 else 0 := by simp [chkP, h120, hrun, runC]
        rw [hchk, hlen]
        by_cases h1 : 1 < ps.length
        · have h1' : (1 : Int) < ps.length := by omega
          simp (maxSteps := 2000000) +contextual [e3, e16, e17, e18, hself, h1', h1, errD, -decide_eq_true_eq, -decide_eq_false_iff_not]
          exact hR.le
        · have h1' : ¬ (1 : Int) < ps.length := by omega
          simp (maxSteps := 2000000) +contextual [e3, e16, e17, e18, hself, h1', h1, -decide_eq_true_eq, -decide_eq_false_iff_not]
          exact hR.le
end Go.HL
