/- Programs as bytes: what the program's layer 12 does, and the reference's answers. -/
import Derived.Test.YtdbbbhjajkobaabGins
set_option linter.unusedVariables false
set_option linter.unusedSimpArgs false
set_option maxRecDepth 100000
set_option maxHeartbeats 1000000
namespace Go.HL
open Go.RowKit Go.Proofs

def bD (c : UInt8) : List D := [.int .u8 (c.toNat : Int)]
theorem bD_length (c : UInt8) : (bD c).length = 1 := rfl
theorem bD_def (c : UInt8) : bD c = [.int .u8 (c.toNat : Int)] := rfl
@[simp] theorem bD_take (c : UInt8) : List.take 1 (bD c) = bD c := rfl
@[simp] theorem bytesD_eq (s : ByteArray) : bytesD s = s.data.toList.map bD := rfl
@[simp] theorem ex_bytes (l : List UInt8) (K : ByteArray → Prop) : (∃ s : ByteArray, l.map bD = s.data.toList.map bD ∧ K s) = K ⟨⟨l⟩⟩ := by
  apply propext
  constructor
  · rintro ⟨s, h, k⟩
    have : s = ⟨⟨l⟩⟩ := bytesD_inj (show bytesD s = bytesD ⟨⟨l⟩⟩ from h.symm)
    rw [← this]; exact k
  · intro k; exact ⟨⟨⟨l⟩⟩, rfl, k⟩
theorem u8_nat (n : Nat) : IntKind.u8.wrap (n : Int) = ((UInt8.ofNat n).toNat : Int) := by
  simp [IntKind.wrap, IntKind.bits, IntKind.signed]
theorem u8_int (n : Int) : IntKind.u8.wrap n = ((UInt8.ofInt n).toNat : Int) := by
  simp [IntKind.wrap, IntKind.bits, IntKind.signed, UInt8.ofInt]
  omega
def errD (n : Nat) : D := if n = 0 then .lit .nilIface else .lit (.iface 62 (.int .i64 n))
@[simp] theorem errD_zero : errD 0 = .lit .nilIface := rfl

def txt (s : ByteArray) : List UInt8 := UInt8.ofNat s.size :: s.data.toList
def putI (x : Ins) : List UInt8 := UInt8.ofInt x.op :: ((if 0 < texts x.op then txt x.a else []) ++ if 1 < texts x.op then txt x.b else [])
def putL (l : List Ins) : List UInt8 := l.flatMap putI
theorem texts_le (o : Int) : texts o ≤ 2 := by unfold texts; split <;> (try split) <;> omega
theorem mayName_le {b : ByteArray} (h : mayName b = true) : b.size ≤ 12 := by simp [mayName] at h; omega
theorem mayText_le {b : ByteArray} (h : mayText b = true) : b.size ≤ 60 := by simp [mayText] at h; omega
theorem voidN_le {b : ByteArray} (h : voidN b = true) : b.size ≤ 12 := by
  simp only [voidN, Bool.or_eq_true, decide_eq_true_eq] at h
  rcases h with ((rfl | rfl) | rfl) | rfl <;> decide
theorem mayIns_le {x : Ins} (h : mayIns x = true) : x.a.size ≤ 60 ∧ x.b.size ≤ 60 := by
  unfold mayIns at h
  have e0 : (⟨#[]⟩ : ByteArray).size = 0 := rfl
  split at h
  · simp only [Bool.and_eq_true] at h; have := mayName_le h.1.1; have := mayText_le h.2; omega
  · split at h
    · simp only [Bool.and_eq_true] at h; have := voidN_le h.1; have := mayText_le h.2; omega
    · split at h
      · simp only [Bool.and_eq_true, decide_eq_true_eq] at h; have := mayText_le h.1; rw [h.2]; omega
      · split at h
        · simp only [Bool.and_eq_true] at h; have := mayName_le h.1; have := mayText_le h.2; omega
        · split at h
          · simp only [Bool.and_eq_true, decide_eq_true_eq] at h; rw [h.1, h.2]; omega
          · cases h
theorem putI_le (x : Ins) (h : mayIns x = true) : (putI x).length ≤ 123 := by
  obtain ⟨h1, h2⟩ := mayIns_le h
  have e1 : (txt x.a).length = x.a.size + 1 := by simp [txt]
  have e2 : (txt x.b).length = x.b.size + 1 := by simp [txt]
  unfold putI
  rw [List.length_cons, List.length_append]
  split <;> split <;> simp [e1, e2] <;> omega
theorem putL_le (l : List Ins) (h : l.all mayIns = true) : (putL l).length ≤ 123 * l.length := by
  induction l with
  | nil => simp [putL]
  | cons x l ih =>
    simp only [List.all_cons, Bool.and_eq_true] at h
    have := putI_le x h.1
    have := ih h.2
    simp only [putL, List.flatMap_cons, List.length_append, List.length_cons] at this ⊢
    omega
theorem putL_next {l : List Ins} {i : Nat} {x : Ins} (hx : l[i]? = some x) : putL (l.take (i + 1)) = putL (l.take i) ++ putI x := by
  rw [take_next hx, putL, List.flatMap_append]; simp [putL]
def FitL (l : List Ins) : Prop := l.length ≤ 1048576 ∧ ∀ x ∈ l, x.a.size ≤ 1048576 ∧ x.b.size ≤ 1048576
theorem FitL.i {l : List Ins} (h : FitL l) {x : Ins} (hx : x ∈ l) : FitI x := ⟨by have := (h.2 x hx).1; omega, by have := (h.2 x hx).2; omega⟩
/-- The instructions' texts, as Put goes through them. -/
def two (x : Ins) : List ByteArray := [x.a, x.b].take (texts x.op)
theorem two_putI (x : Ins) : putI x = UInt8.ofInt x.op :: (two x).flatMap txt := by
  unfold putI two
  have := texts_le x.op
  rcases h : texts x.op with _ | _ | _ | n
  · simp
  · simp
  · simp
  · omega
def putErr (l : List Ins) : Nat := if l.all mayIns then if 120 < l.length then 13 else 0 else 1
def putOut (l : List Ins) : List UInt8 := if putErr l = 0 then putL l else []
def txtP (l : List UInt8) : Option (ByteArray × List UInt8) := match l with
  | [] => none
  | c :: r => if c.toNat ≤ r.length then some (⟨⟨r.take c.toNat⟩⟩, r.drop c.toNat) else none
def textD (l : List UInt8) : D := match txtP l with
  | some (a, r) => .tup [.str a, .list (r.map bD) .ro, .bool true]
  | none => .tup [.str ⟨#[]⟩, .list [] .nil, .bool false]
theorem u8_lt (c : UInt8) : c.toNat < 256 := c.toNat_lt
theorem wrap_c (c : UInt8) : IntKind.i64.wrap (c.toNat : Int) = c.toNat := by have := u8_lt c; rw [wrap_i64] <;> omega
theorem wrap_1c (c : UInt8) : IntKind.i64.wrap (1 + (c.toNat : Int)) = 1 + c.toNat := by have := u8_lt c; rw [wrap_i64] <;> omega
def checkI (x : Ins) (r : List UInt8) : Option (Ins × List UInt8) := if mayIns x then some (x, r) else none
def oneP (l : List UInt8) : Option (Ins × List UInt8) := match l with
  | [] => none
  | u :: r =>
    if texts u.toNat = 0 then checkI ⟨u.toNat, ⟨#[]⟩, ⟨#[]⟩⟩ r else
    match txtP r with
    | none => none
    | some (a, r1) => if texts u.toNat = 1 then checkI ⟨u.toNat, a, ⟨#[]⟩⟩ r1 else
      match txtP r1 with
      | none => none
      | some (b, r2) => checkI ⟨u.toNat, a, b⟩ r2
/-- What one hands back. -/
def OneD (l : List UInt8) (d : D) : Prop := ∃ (i : Ins) (rest : List UInt8) (tok : Tok) (is : Bool), d = .tup [.agg (insD i), .list (rest.map bD) tok, .bool is] ∧ oneP l = if is then some (i, rest) else none
theorem txtP_le {l r : List UInt8} {a : ByteArray} (h : txtP l = some (a, r)) : a.size ≤ 255 ∧ r.length < l.length := by
  cases l with
  | nil => simp [txtP] at h
  | cons c t =>
    simp only [txtP] at h
    split at h
    · injection h with h
      injection h with h1 h2
      subst h1 h2
      have := u8_lt c
      have e : (⟨⟨t.take c.toNat⟩⟩ : ByteArray).size = min c.toNat t.length := by simp [ByteArray.size]
      rw [e]
      simp
      omega
    · cases h
/-- Get, from what is left and what is there. -/
def getF : Nat → List UInt8 → List Ins → List Ins × Nat
  | 0, _, out => (out, 0)
  | n + 1, l, out => if l = [] then (out, 0) else match oneP l with
    | none => ([], 7)
    | some (x, r) => if out.length = 120 then ([], 13) else getF n r (out ++ [x])
theorem oneP_lt {l r : List UInt8} {x : Ins} (h : oneP l = some (x, r)) : r.length < l.length := by
  cases l with
  | nil => simp [oneP] at h
  | cons u t =>
    simp only [oneP, checkI] at h
    split at h
    · split at h
      · injection h with h; injection h with h1 h2; subst h2; simp
      · cases h
    · split at h
      · cases h
      · rename_i a r1 ht
        have := (txtP_le ht).2
        split at h
        · split at h
          · injection h with h; injection h with h1 h2; subst h2; simp; omega
          · cases h
        · split at h
          · cases h
          · rename_i b r2 ht2
            have := (txtP_le ht2).2
            split at h
            · injection h with h; injection h with h1 h2; subst h2; simp; omega
            · cases h
def getP (l : List UInt8) : List Ins × Nat := getF l.length l []
/-! The reference. -/
theorem putI_len (x : Ins) : (putI x).length ≤ x.a.size + x.b.size + 3 := by
  have e1 : (txt x.a).length = x.a.size + 1 := by simp [txt]
  have e2 : (txt x.b).length = x.b.size + 1 := by simp [txt]
  unfold putI
  rw [List.length_cons, List.length_append]
  split <;> split <;> simp [e1, e2] <;> omega
theorem cmp_code : ∃ a, Try.prog.info? 62 = some a ∧ a.comparable = true := by
  have : ((Try.prog.info? 62).map (·.comparable)) = some true := by kernel_rfl
  simpa using this
theorem c_err (n : Nat) (hn : n ≤ 13) : Ret Try.prog 32 [errD n] (.int .i64 n) := by
  refine Ret.of fun σ => ?_
  refine HCalls.start mixed false _ _ (fn := Try.f32) (by kernel_rfl) rfl (by kernel_rfl) rfl (by kernel_rfl) (by kernel_rfl) ?_
  by_cases h0 : n = 0
  · subst h0; simp (maxSteps := 2000000) +contextual [-decide_eq_true_eq, -decide_eq_false_iff_not]
  · have he : errD n = .lit (.iface 62 (.int .i64 n)) := by simp [errD, h0]
    rw [he]
    simp (maxSteps := 2000000) +contextual [-decide_eq_true_eq, -decide_eq_false_iff_not]
    refine hloop_fix (fun k e => ∃ i : Nat, i + k = 14 ∧ 1 ≤ i ∧ i ≤ n ∧ e 0 = .lit (.iface 62 (.int .i64 n)) ∧ e 3 = .int .i64 i) 13 ?_ ?_
    · exact ⟨1, by omega, by omega, by omega, by simp⟩
    · rintro k e ⟨i, hi, h1, h2, e0, e3⟩
      simp (maxSteps := 2000000) +contextual [e0, e3, -decide_eq_true_eq, -decide_eq_false_iff_not]
      refine ⟨fun _ => ⟨cmp_code, fun h => by have := dec_t h; omega, fun h => ?_⟩, by simp; omega⟩
      have := dec_f h
      exact ⟨k - 1, by omega, i + 1, by omega, by omega, by omega, by rw [wrap_i64] <;> omega⟩
end Go.HL
