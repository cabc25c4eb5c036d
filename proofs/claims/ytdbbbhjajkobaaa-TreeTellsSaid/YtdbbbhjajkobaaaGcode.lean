/- Programs as bytes: what the program's layer 12 does, and the reference's answers. -/
import Derived.Test.YtdbbbhjajkobaaaGins
set_option linter.unusedVariables false
set_option linter.unusedSimpArgs false
set_option maxRecDepth 100000
set_option maxHeartbeats 1000000
namespace Go.HL
open Go.RowKit Go.Proofs

def bD (c : UInt8) : List D := [.int .u8 (c.toNat : Int)]
theorem bD_length (c : UInt8) : (bD c).length = 1 := rfl
theorem bD_def (c : UInt8) : bD c = [.int .u8 (c.toNat : Int)] := rfl
@[simp] theorem bD_take (c : UInt8) : List.take 1 (bD c) = bD c := rfl
@[simp] theorem bytesD_eq (s : ByteArray) : bytesD s = s.data.toList.map bD := rfl
@[simp] theorem ex_bytes (l : List UInt8) (K : ByteArray → Prop) : (∃ s : ByteArray, l.map bD = s.data.toList.map bD ∧ K s) = K ⟨⟨l⟩⟩ := by
  apply propext
  constructor
  · rintro ⟨s, h, k⟩
    have : s = ⟨⟨l⟩⟩ := bytesD_inj (show bytesD s = bytesD ⟨⟨l⟩⟩ from h.symm)
    rw [← this]; exact k
  · intro k; exact ⟨⟨⟨l⟩⟩, rfl, k⟩
theorem u8_nat (n : Nat) : IntKind.u8.wrap (n : Int) = ((UInt8.ofNat n).toNat : Int) := by
  simp [IntKind.wrap, IntKind.bits, IntKind.signed]
theorem u8_int (n : Int) : IntKind.u8.wrap n = ((UInt8.ofInt n).toNat : Int) := by
  simp [IntKind.wrap, IntKind.bits, IntKind.signed, UInt8.ofInt]
  omega
def errD (n : Nat) : D := if n = 0 then .lit .nilIface else .lit (.iface 39 (.int .i64 n))
@[simp] theorem errD_zero : errD 0 = .lit .nilIface := rfl

def txt (s : ByteArray) : List UInt8 := UInt8.ofNat s.size :: s.data.toList
def putI (x : Ins) : List UInt8 := UInt8.ofInt x.op :: ((if 0 < texts x.op then txt x.a else []) ++ if 1 < texts x.op then txt x.b else [])
def putL (l : List Ins) : List UInt8 := l.flatMap putI
theorem texts_le (o : Int) : texts o ≤ 2 := by unfold texts; split <;> (try split) <;> omega
theorem mayName_le {b : ByteArray} (h : mayName b = true) : b.size ≤ 12 := by simp [mayName] at h; omega
theorem mayText_le {b : ByteArray} (h : mayText b = true) : b.size ≤ 60 := by simp [mayText] at h; omega
theorem voidN_le {b : ByteArray} (h : voidN b = true) : b.size ≤ 12 := by
  simp only [voidN, Bool.or_eq_true, decide_eq_true_eq] at h
  rcases h with ((rfl | rfl) | rfl) | rfl <;> decide
theorem mayIns_le {x : Ins} (h : mayIns x = true) : x.a.size ≤ 60 ∧ x.b.size ≤ 60 := by
  unfold mayIns at h
  have e0 : (⟨#[]⟩ : ByteArray).size = 0 := rfl
  split at h
  · simp only [Bool.and_eq_true] at h; have := mayName_le h.1.1; have := mayText_le h.2; omega
  · split at h
    · simp only [Bool.and_eq_true] at h; have := voidN_le h.1; have := mayText_le h.2; omega
    · split at h
      · simp only [Bool.and_eq_true, decide_eq_true_eq] at h; have := mayText_le h.1; rw [h.2]; omega
      · split at h
        · simp only [Bool.and_eq_true] at h; have := mayName_le h.1; have := mayText_le h.2; omega
        · split at h
          · simp only [Bool.and_eq_true, decide_eq_true_eq] at h; rw [h.1, h.2]; omega
          · cases h
theorem putI_le (x : Ins) (h : mayIns x = true) : (putI x).length ≤ 123 := by
  obtain ⟨h1, h2⟩ := mayIns_le h
  have e1 : (txt x.a).length = x.a.size + 1 := by simp [txt]
  have e2 : (txt x.b).length = x.b.size + 1 := by simp [txt]
  unfold putI
  rw [List.length_cons, List.length_append]
  split <;> split <;> simp [e1, e2] <;> omega
theorem putL_le (l : List Ins) (h : l.all mayIns = true) : (putL l).length ≤ 123 * l.length := by
  induction l with
  | nil => simp [putL]
  | cons x l ih =>
    simp only [List.all_cons, Bool.and_eq_true] at h
    have := putI_le x h.1
    have := ih h.2
    simp only [putL, List.flatMap_cons, List.length_append, List.length_cons] at this ⊢
    omega
theorem putL_next {l : List Ins} {i : Nat} {x : Ins} (hx : l[i]? = some x) : putL (l.take (i + 1)) = putL (l.take i) ++ putI x := by
  rw [take_next hx, putL, List.flatMap_append]; simp [putL]
def FitL (l : List Ins) : Prop := l.length ≤ 1048576 ∧ ∀ x ∈ l, x.a.size ≤ 1048576 ∧ x.b.size ≤ 1048576
theorem FitL.i {l : List Ins} (h : FitL l) {x : Ins} (hx : x ∈ l) : FitI x := ⟨by have := (h.2 x hx).1; omega, by have := (h.2 x hx).2; omega⟩
/-- The instructions' texts, as Put goes through them. -/
def two (x : Ins) : List ByteArray := [x.a, x.b].take (texts x.op)
theorem two_putI (x : Ins) : putI x = UInt8.ofInt x.op :: (two x).flatMap txt := by
  unfold putI two
  have := texts_le x.op
  rcases h : texts x.op with _ | _ | _ | n
  · simp
  · simp
  · simp
  · omega
def putErr (l : List Ins) : Nat := if l.all mayIns then if 120 < l.length then 13 else 0 else 1
def putOut (l : List Ins) : List UInt8 := if putErr l = 0 then putL l else []
theorem c_put (l : List Ins) (t0 : Tok) (hl : FitL l) : RetLs Try.prog 23 [.list (l.map insD) t0] ((putOut l).map bD) [errD (putErr l)] := by
  refine RetLs.of fun σ => ?_
  refine HCalls.start mixed false _ _ (fn := Try.f23) (by kernel_rfl) rfl (by kernel_rfl) rfl (by kernel_rfl) (by kernel_rfl) ?_
  have hl1 := hl.1
  simp (maxSteps := 2000000) +contextual [-decide_eq_true_eq, -decide_eq_false_iff_not]
  refine hloop_intro (fun n e s => ∃ (i : Nat) (tok : Tok) (out : List UInt8), i + n = l.length ∧ e 0 = .list (l.map insD) t0 ∧ e 9 = .list (l.map insD) t0 ∧ e 10 = .int .i64 l.length ∧ e 11 = .int .i64 i ∧ e 4 = .list (out.map bD) tok ∧ Gr 1 σ (out.map bD) tok s ∧ Front mayIns l i ∧ putL (l.take i) = out) l.length ?_ ?_
  · exact ⟨0, .nil, [], by simp [Front.zero, putL]; exact .nil⟩
  · rintro n e s ⟨i, tok, out, hi, e0, e9, e10, e11, e4, hg, hf, ho⟩
    have hlen : out.length ≤ 123 * i := by
      have := putL_le (l.take i) hf
      rw [List.length_take, ho] at this
      omega
    simp (maxSteps := 2000000) +contextual [e0, e9, e10, e11, e4, insD_length, -decide_eq_true_eq, -decide_eq_false_iff_not]
    refine ⟨fun h4 => ⟨by simpa using h4, fun x hx b hb => ?_⟩, fun h4 => ?_⟩
    · have h4 := dec_t h4
      simp (maxSteps := 2000000) +contextual [insD_def, -decide_eq_true_eq, -decide_eq_false_iff_not]
      refine c_mayI x (hl.i (List.mem_of_getElem? hx)) _ _ ?_
      simp (maxSteps := 2000000) +contextual [insD_def, e0, e9, e10, e11, e4, bD_length, -decide_eq_true_eq, -decide_eq_false_iff_not]
      refine ⟨fun h5 => ?_, fun h5 => ?_⟩
      · have : putErr l = 1 := by unfold putErr; rw [all_no hx h5]; simp
        exact ⟨SLe.trans hg.le ((SLe.refl s).set hb _), by simp [putOut, this], by simp [this, errD]⟩
      · have hs : SLe s (s.set b (.cells (insD x))) := (SLe.refl s).set hb _
        rw [u8_int]
        refine hg.appendT hs [UInt8.ofInt x.op] ?_ ?_ ?_ ?_ ?_
        · rfl
        · rfl
        · (try simp); omega
        · (try simp); omega
        intro out1 tok' s' s3 ho1 hs3 hk hg3
        have hb3 : s' b = some (.cells (insD x)) := hk.cells (by simp)
        refine hdraw_intro (by kernel_rfl) ?_
        simp (maxSteps := 2000000) +contextual [hb3, insD_def, e0, e9, e10, e11, e4, bD_length, -decide_eq_true_eq, -decide_eq_false_iff_not]
        refine c_texts x.op _ _ ?_
        have ht2 := texts_le x.op
        simp (maxSteps := 2000000) +contextual [hb3, insD_def, e0, e9, e10, e11, e4, bD_length, -decide_eq_true_eq, -decide_eq_false_iff_not]
        refine ⟨by omega, ?_⟩
        have htw : List.take (texts x.op) [[D.str x.a], [D.str x.b]] = (two x).map (fun s => [D.str s]) := by simp [two, List.map_take]
        have htl : min (texts x.op) 2 = (two x).length := by simp [two]
        obtain ⟨hxa, hxb⟩ := mayIns_le h5
        have hts : ∀ s ∈ two x, s.size ≤ 60 := fun s hs => by
          have := List.mem_of_mem_take hs
          simp at this
          rcases this with rfl | rfl <;> assumption
        have htwo : (two x).length ≤ 2 := by simp [two]; omega
        have hnext := putL_next hx
        rw [ho] at hnext
        have hlen1 : out1.length ≤ 123 * i + 1 := by rw [ho1]; simp; omega
        simp (maxSteps := 2000000) +contextual [htw, htl, -decide_eq_true_eq, -decide_eq_false_iff_not]
        refine hloop_intro (fun n e s2 => ∃ (j : Nat) (tok : Tok) (s3 : Store) (out2 : List UInt8), j + n = (two x).length ∧ e 0 = .list (l.map insD) t0 ∧ e 9 = .list (l.map insD) t0 ∧ e 10 = .int .i64 l.length ∧ e 11 = .int .i64 i ∧
          e 33 = .list ((two x).map fun s => [D.str s]) .ro ∧ e 34 = .int .i64 (two x).length ∧ e 35 = .int .i64 j ∧
          e 4 = .list (out2.map bD) tok ∧ SLe s3 s2 ∧ Gr 1 σ (out2.map bD) tok s3 ∧ out1 ++ ((two x).take j).flatMap txt = out2 ∧ out2.length ≤ 123 * i + 1 + 61 * j) (two x).length ?_ ?_
        · refine ⟨0, tok', s3, out1, by simp, ?_⟩
          simp (maxSteps := 2000000) +contextual [e0, e9, e10, e11, e4, -decide_eq_true_eq, -decide_eq_false_iff_not]
          exact ⟨hs3, hg3, hlen1⟩
        · rintro n2 e s2 ⟨j, tok, s3, out2, hj, e0, e9, e10, e11, e33, e34, e35, e4, hs3, hg, ho2, hjl⟩
          simp (maxSteps := 2000000) +contextual [e0, e9, e10, e11, e33, e34, e35, e4, bD_length, -decide_eq_true_eq, -decide_eq_false_iff_not]
          refine ⟨fun h6 => ⟨by simpa using h6, fun y hy => ?_⟩, fun h6 => ?_⟩
          · have h6 := dec_t h6
            have hys := hts y (List.mem_of_getElem? hy)
            rw [u8_nat]
            have tj : ((two x).take (j + 1)).flatMap txt = ((two x).take j).flatMap txt ++ txt y := by rw [take_next hy, List.flatMap_append]; simp
            refine hg.appendT hs3 [UInt8.ofNat y.size] ?_ ?_ ?_ ?_ ?_
            · rfl
            · rfl
            · (try simp); omega
            · (try simp); omega
            intro out3 tok' s' s4 ho3 hs4 hk4 hg4
            have hl3 : out3.length = out2.length + 1 := by rw [ho3]; simp
            simp (maxSteps := 2000000) +contextual [e0, e9, e10, e11, e33, e34, e35, e4, bD_length, -decide_eq_true_eq, -decide_eq_false_iff_not]
            have hyl : y.data.toList.length = y.size := by simp
            refine hg4.appendT hs4 y.data.toList ?_ ?_ ?_ ?_ ?_
            · rfl
            · rfl
            · (try simp); omega
            · (try simp); omega
            intro out5 tok5 s5 s6 ho5 hs6 hk6 hg6
            have hl5 : out5.length = out3.length + y.size := by rw [ho5]; simp
            simp (maxSteps := 2000000) +contextual [e0, e9, e10, e11, e33, e34, e35, e4, bD_length, -decide_eq_true_eq, -decide_eq_false_iff_not]
            refine ⟨n2 - 1, by omega, _, SLe.refl _, j + 1, by omega, by rw [wrap_i64] <;> omega, tok5, s6, out5, ⟨rfl, rfl⟩, hs6, hg6, ?_, by omega⟩
            rw [tj, ho5, ho3, ← ho2]
            simp [txt]
          · have h6 := dec_f h6
            have hjj : (two x).length ≤ j := by omega
            rw [List.take_of_length_le hjj] at ho2
            refine ⟨n - 1, by omega, s3, hs3, i + 1, by omega, by rw [wrap_i64] <;> omega, ?_⟩
            have : out2 = putL (l.take (i + 1)) := by rw [hnext, two_putI, ← ho2, ho1]; simp
            exact ⟨tok, out2, ⟨rfl, rfl⟩, hg, hf.succ hx h5, this.symm⟩
    · have h4 := dec_f h4
      have hi : l.length ≤ i := by omega
      have hall := hf.all hi
      rw [List.take_of_length_le hi] at ho
      refine ⟨fun h5 => ?_, fun h5 => ?_⟩
      · have h5 := dec_t h5
        have : putErr l = 13 := by unfold putErr; rw [hall]; simp; omega
        exact ⟨hg.le, by simp [putOut, this], by simp [this, errD]⟩
      · have h5 := dec_f h5
        have : putErr l = 0 := by unfold putErr; rw [hall]; simp; omega
        exact ⟨hg.le, by simp [putOut, this, ho], by simp [this]⟩

def txtP (l : List UInt8) : Option (ByteArray × List UInt8) := match l with
  | [] => none
  | c :: r => if c.toNat ≤ r.length then some (⟨⟨r.take c.toNat⟩⟩, r.drop c.toNat) else none
def textD (l : List UInt8) : D := match txtP l with
  | some (a, r) => .tup [.str a, .list (r.map bD) .ro, .bool true]
  | none => .tup [.str ⟨#[]⟩, .list [] .nil, .bool false]
theorem u8_lt (c : UInt8) : c.toNat < 256 := c.toNat_lt
theorem wrap_c (c : UInt8) : IntKind.i64.wrap (c.toNat : Int) = c.toNat := by have := u8_lt c; rw [wrap_i64] <;> omega
theorem wrap_1c (c : UInt8) : IntKind.i64.wrap (1 + (c.toNat : Int)) = 1 + c.toNat := by have := u8_lt c; rw [wrap_i64] <;> omega
theorem c_text12 (l : List UInt8) (t0 : Tok) (hl : l.length ≤ 1048576) : Ret Try.prog 101 [.list (l.map bD) t0] (textD l) := by
  refine Ret.of fun σ => ?_
  refine HCalls.start mixed false _ _ (fn := Try.f101) (by kernel_rfl) rfl (by kernel_rfl) rfl (by kernel_rfl) (by kernel_rfl) ?_
  cases l with
  | nil => simp (maxSteps := 2000000) +contextual [textD, txtP, -decide_eq_true_eq, -decide_eq_false_iff_not]
  | cons c r =>
    simp at hl
    have hz : ¬ ((r.length : Int) + 1 = 0) := by omega
    by_cases hc : c.toNat ≤ r.length
    · have hc' : ¬ ((r.length : Int) + 1 ≤ c.toNat) := by omega
      simp (maxSteps := 2000000) +contextual [bD_length, bD_def, wrap_c, wrap_1c, hc', hz, -decide_eq_true_eq, -decide_eq_false_iff_not]
      refine hdraw_intro (by kernel_rfl) ?_
      have e1 : (1 + (c.toNat : Int)).toNat = c.toNat + 1 := by omega
      have e2 : List.take r.length (r.map bD) = r.map bD := List.take_of_length_le (by simp)
      simp (maxSteps := 2000000) +contextual [bD_length, bD_def, wrap_c, wrap_1c, hc', hz, e1, e2, -decide_eq_true_eq, -decide_eq_false_iff_not]
      rw [← List.map_take, ex_bytes]
      refine ⟨by omega, fun e he => ?_, by omega, ?_⟩
      · obtain ⟨x, -, rfl⟩ := List.mem_map.1 he; rfl
      · simp [textD, txtP, hc, List.map_drop]
    · have hc' : ((r.length : Int) + 1 ≤ c.toNat) := by omega
      simp (maxSteps := 2000000) +contextual [bD_length, bD_def, wrap_c, wrap_1c, hc', hz, -decide_eq_true_eq, -decide_eq_false_iff_not]
      simp [textD, txtP, hc]

def checkI (x : Ins) (r : List UInt8) : Option (Ins × List UInt8) := if mayIns x then some (x, r) else none
def oneP (l : List UInt8) : Option (Ins × List UInt8) := match l with
  | [] => none
  | u :: r =>
    if texts u.toNat = 0 then checkI ⟨u.toNat, ⟨#[]⟩, ⟨#[]⟩⟩ r else
    match txtP r with
    | none => none
    | some (a, r1) => if texts u.toNat = 1 then checkI ⟨u.toNat, a, ⟨#[]⟩⟩ r1 else
      match txtP r1 with
      | none => none
      | some (b, r2) => checkI ⟨u.toNat, a, b⟩ r2
/-- What one hands back. -/
def OneD (l : List UInt8) (d : D) : Prop := ∃ (i : Ins) (rest : List UInt8) (tok : Tok) (is : Bool), d = .tup [.agg (insD i), .list (rest.map bD) tok, .bool is] ∧ oneP l = if is then some (i, rest) else none
theorem txtP_le {l r : List UInt8} {a : ByteArray} (h : txtP l = some (a, r)) : a.size ≤ 255 ∧ r.length < l.length := by
  cases l with
  | nil => simp [txtP] at h
  | cons c t =>
    simp only [txtP] at h
    split at h
    · injection h with h
      injection h with h1 h2
      subst h1 h2
      have := u8_lt c
      have e : (⟨⟨t.take c.toNat⟩⟩ : ByteArray).size = min c.toNat t.length := by simp [ByteArray.size]
      rw [e]
      simp
      omega
    · cases h
theorem c_one12 (u : UInt8) (r : List UInt8) (t0 : Tok) (hl : r.length ≤ 1048576) (σ : Store) : HCalls Try.prog 71 [.list ((u :: r).map bD) t0] σ fun d s => OneD (u :: r) d ∧ s = σ := by
  refine HCalls.start mixed false _ _ (fn := Try.f71) (by kernel_rfl) rfl (by kernel_rfl) rfl (by kernel_rfl) (by kernel_rfl) ?_
  simp (maxSteps := 2000000) +contextual [bD_length, bD_def, wrap_c, -decide_eq_true_eq, -decide_eq_false_iff_not]
  intro b hb b1 n1 hb1
  have hS : SLe σ ((σ.set b (.cells [.int .i64 0, .str ⟨#[]⟩, .str ⟨#[]⟩])).set b1 (.cells [.int .i64 u.toNat, .str ⟨#[]⟩, .str ⟨#[]⟩])) := ((SLe.refl σ).set hb _).set (by simp [n1, hb1]) _
  refine ⟨by omega, c_texts _ _ _ ?_⟩
  have etake : List.take r.length (r.map bD) = r.map bD := List.take_of_length_le (by simp)
  -- the end: what one hands back, once its texts are read
  have h3 : texts u.toNat = 0 ∨ texts u.toNat = 1 ∨ texts u.toNat = 2 := by have := texts_le u.toNat; omega
  rcases h3 with h3 | h3 | h3
  · simp (maxSteps := 2000000) +contextual [h3, hb, hb1, n1, etake, -decide_eq_true_eq, -decide_eq_false_iff_not]
    refine hdraw_part (σ.set b1 (.cells (insD ⟨u.toNat, ⟨#[]⟩, ⟨#[]⟩⟩))) ?_ (by kernel_rfl) ?_
    · exact SLe_drop ((SLe.refl σ).set hb _) b1
    simp (maxSteps := 2000000) +contextual [h3, hb, hb1, n1, etake, insD_def, -decide_eq_true_eq, -decide_eq_false_iff_not]
    refine c_mayI ⟨u.toNat, ⟨#[]⟩, ⟨#[]⟩⟩ ⟨Nat.zero_le _, Nat.zero_le _⟩ _ _ ?_
    simp (maxSteps := 2000000) +contextual [h3, hb, hb1, n1, etake, -decide_eq_true_eq, -decide_eq_false_iff_not]
    refine ⟨by (intro xx oo hh; simp only [Store.set] at hh ⊢; grind), by (intro xx oo hh; simp only [Store.set] at hh ⊢; grind), by (intro xx oo hh; simp only [Store.set] at hh ⊢; grind), ⟨u.toNat, ⟨#[]⟩, ⟨#[]⟩⟩, r, .ro, mayIns ⟨u.toNat, ⟨#[]⟩, ⟨#[]⟩⟩, rfl, ?_⟩
    simp [oneP, h3, checkI]
  · simp (maxSteps := 2000000) +contextual [h3, hb, hb1, n1, etake, -decide_eq_true_eq, -decide_eq_false_iff_not]
    refine c_text12 r .ro hl _ _ ?_
    unfold textD
    cases ht : txtP r with
    | none =>
      simp (maxSteps := 2000000) +contextual [h3, hb, hb1, n1, etake, -decide_eq_true_eq, -decide_eq_false_iff_not]
      refine hdraw_part (σ.set b1 (.cells (insD ⟨u.toNat, ⟨#[]⟩, ⟨#[]⟩⟩))) (by simp only [insD_def]; (intro xx oo hh; simp only [Store.set] at hh ⊢; grind)) (by kernel_rfl) ?_
      simp (maxSteps := 2000000) +contextual [h3, hb, hb1, n1, etake, insD_def, -decide_eq_true_eq, -decide_eq_false_iff_not]
      refine ⟨by (intro xx oo hh; simp only [Store.set] at hh ⊢; grind), by (intro xx oo hh; simp only [Store.set] at hh ⊢; grind), ⟨u.toNat, ⟨#[]⟩, ⟨#[]⟩⟩, [], .nil, false, rfl, ?_⟩
      simp [oneP, h3, checkI, ht]
    | some p =>
      obtain ⟨a, r1⟩ := p
      obtain ⟨ha, hr1⟩ := txtP_le ht
      simp (maxSteps := 2000000) +contextual [h3, hb, hb1, n1, etake, -decide_eq_true_eq, -decide_eq_false_iff_not]
      refine hdraw_part (σ.set b1 (.cells (insD ⟨u.toNat, a, ⟨#[]⟩⟩))) (by simp only [insD_def]; (intro xx oo hh; simp only [Store.set] at hh ⊢; grind)) (by kernel_rfl) ?_
      simp (maxSteps := 2000000) +contextual [h3, hb, hb1, n1, etake, insD_def, -decide_eq_true_eq, -decide_eq_false_iff_not]
      refine c_mayI ⟨u.toNat, a, ⟨#[]⟩⟩ ⟨by simp; omega, Nat.zero_le _⟩ _ _ ?_
      simp (maxSteps := 2000000) +contextual [h3, hb, hb1, n1, etake, insD_def, -decide_eq_true_eq, -decide_eq_false_iff_not]
      refine ⟨by (intro xx oo hh; simp only [Store.set] at hh ⊢; grind), by (intro xx oo hh; simp only [Store.set] at hh ⊢; grind), by (intro xx oo hh; simp only [Store.set] at hh ⊢; grind), ⟨u.toNat, a, ⟨#[]⟩⟩, _, .ro, mayIns ⟨u.toNat, a, ⟨#[]⟩⟩, rfl, ?_⟩
      simp [oneP, h3, checkI, ht]
  · simp (maxSteps := 2000000) +contextual [h3, hb, hb1, n1, etake, -decide_eq_true_eq, -decide_eq_false_iff_not]
    refine c_text12 r .ro hl _ _ ?_
    unfold textD
    cases ht : txtP r with
    | none =>
      simp (maxSteps := 2000000) +contextual [h3, hb, hb1, n1, etake, -decide_eq_true_eq, -decide_eq_false_iff_not]
      refine hdraw_part (σ.set b1 (.cells (insD ⟨u.toNat, ⟨#[]⟩, ⟨#[]⟩⟩))) (by simp only [insD_def]; (intro xx oo hh; simp only [Store.set] at hh ⊢; grind)) (by kernel_rfl) ?_
      simp (maxSteps := 2000000) +contextual [h3, hb, hb1, n1, etake, insD_def, -decide_eq_true_eq, -decide_eq_false_iff_not]
      refine ⟨by (intro xx oo hh; simp only [Store.set] at hh ⊢; grind), by (intro xx oo hh; simp only [Store.set] at hh ⊢; grind), ⟨u.toNat, ⟨#[]⟩, ⟨#[]⟩⟩, [], .nil, false, rfl, ?_⟩
      simp [oneP, h3, checkI, ht]
    | some p =>
      obtain ⟨a, r1⟩ := p
      obtain ⟨ha, hr1⟩ := txtP_le ht
      simp (maxSteps := 2000000) +contextual [h3, hb, hb1, n1, etake, -decide_eq_true_eq, -decide_eq_false_iff_not]
      refine c_text12 r1 .ro (by omega) _ _ ?_
      unfold textD
      cases ht2 : txtP r1 with
      | none =>
        simp (maxSteps := 2000000) +contextual [h3, hb, hb1, n1, etake, -decide_eq_true_eq, -decide_eq_false_iff_not]
        refine hdraw_part (σ.set b1 (.cells (insD ⟨u.toNat, a, ⟨#[]⟩⟩))) (by simp only [insD_def]; (intro xx oo hh; simp only [Store.set] at hh ⊢; grind)) (by kernel_rfl) ?_
        simp (maxSteps := 2000000) +contextual [h3, hb, hb1, n1, etake, insD_def, -decide_eq_true_eq, -decide_eq_false_iff_not]
        refine ⟨by (intro xx oo hh; simp only [Store.set] at hh ⊢; grind), by (intro xx oo hh; simp only [Store.set] at hh ⊢; grind), ⟨u.toNat, a, ⟨#[]⟩⟩, [], .nil, false, rfl, ?_⟩
        simp [oneP, h3, checkI, ht, ht2]
      | some p =>
        obtain ⟨c, r2⟩ := p
        obtain ⟨hc, hr2⟩ := txtP_le ht2
        simp (maxSteps := 2000000) +contextual [h3, hb, hb1, n1, etake, -decide_eq_true_eq, -decide_eq_false_iff_not]
        refine hdraw_part (σ.set b1 (.cells (insD ⟨u.toNat, a, c⟩))) (by simp only [insD_def]; (intro xx oo hh; simp only [Store.set] at hh ⊢; grind)) (by kernel_rfl) ?_
        simp (maxSteps := 2000000) +contextual [h3, hb, hb1, n1, etake, insD_def, -decide_eq_true_eq, -decide_eq_false_iff_not]
        refine c_mayI ⟨u.toNat, a, c⟩ ⟨by simp; omega, by simp; omega⟩ _ _ ?_
        simp (maxSteps := 2000000) +contextual [h3, hb, hb1, n1, etake, insD_def, -decide_eq_true_eq, -decide_eq_false_iff_not]
        refine ⟨by (intro xx oo hh; simp only [Store.set] at hh ⊢; grind), by (intro xx oo hh; simp only [Store.set] at hh ⊢; grind), by (intro xx oo hh; simp only [Store.set] at hh ⊢; grind), ⟨u.toNat, a, c⟩, _, .ro, mayIns ⟨u.toNat, a, c⟩, rfl, ?_⟩
        simp [oneP, h3, checkI, ht, ht2]

/-- Get, from what is left and what is there. -/
def getF : Nat → List UInt8 → List Ins → List Ins × Nat
  | 0, _, out => (out, 0)
  | n + 1, l, out => if l = [] then (out, 0) else match oneP l with
    | none => ([], 7)
    | some (x, r) => if out.length = 120 then ([], 13) else getF n r (out ++ [x])
theorem oneP_lt {l r : List UInt8} {x : Ins} (h : oneP l = some (x, r)) : r.length < l.length := by
  cases l with
  | nil => simp [oneP] at h
  | cons u t =>
    simp only [oneP, checkI] at h
    split at h
    · split at h
      · injection h with h; injection h with h1 h2; subst h2; simp
      · cases h
    · split at h
      · cases h
      · rename_i a r1 ht
        have := (txtP_le ht).2
        split at h
        · split at h
          · injection h with h; injection h with h1 h2; subst h2; simp; omega
          · cases h
        · split at h
          · cases h
          · rename_i b r2 ht2
            have := (txtP_le ht2).2
            split at h
            · injection h with h; injection h with h1 h2; subst h2; simp; omega
            · cases h
def getP (l : List UInt8) : List Ins × Nat := getF l.length l []
theorem c_get (l : List UInt8) (t0 : Tok) (hl : l.length ≤ 1048576) : RetLs Try.prog 26 [.list (l.map bD) t0] ((getP l).1.map insD) [errD (getP l).2] := by
  refine RetLs.of fun σ => ?_
  refine HCalls.start mixed false _ _ (fn := Try.f26) (by kernel_rfl) rfl (by kernel_rfl) rfl (by kernel_rfl) (by kernel_rfl) ?_
  simp (maxSteps := 2000000) +contextual [-decide_eq_true_eq, -decide_eq_false_iff_not]
  refine hloop_intro (fun n e s => ∃ (t0 tok : Tok) (rest : List UInt8) (out : List Ins), rest.length ≤ n ∧ rest.length ≤ 1048576 ∧ e 0 = .list (rest.map bD) t0 ∧ e 4 = .list (out.map insD) tok ∧ Gr 3 σ (out.map insD) tok s ∧ out.length ≤ 120 ∧ getF n rest out = getP l) l.length ?_ ?_
  · exact ⟨t0, .nil, l, [], by simp, hl, by simp, by simp, .nil, by simp, rfl⟩
  · rintro n e s ⟨t0, tok, rest, out, hr, hrl, e0, e4, hg, hol, heq⟩
    cases rest with
    | nil =>
      simp (maxSteps := 2000000) +contextual [e0, e4, -decide_eq_true_eq, -decide_eq_false_iff_not]
      have : getP l = (out, 0) := by rw [← heq]; cases n <;> simp [getF]
      rw [this]
      exact ⟨hg.le, by simp⟩
    | cons u r =>
      have hpos : 0 < (r.length : Int) + 1 := by omega
      simp only [List.length_cons] at hr hrl
      simp (maxSteps := 2000000) +contextual [e0, e4, hpos, -decide_eq_true_eq, -decide_eq_false_iff_not]
      refine (c_one12 u r t0 (by omega) s).mono ?_
      rintro d s' ⟨⟨x, rest, tk, is, rfl, h1⟩, rfl⟩
      simp (maxSteps := 2000000) +contextual [e0, e4, insD_length, insD_def, -decide_eq_true_eq, -decide_eq_false_iff_not]
      intro b hb
      obtain ⟨m, rfl⟩ : ∃ m, n = m + 1 := ⟨n - 1, by omega⟩
      cases is with
      | false =>
        simp (maxSteps := 2000000) +contextual [e0, e4, -decide_eq_true_eq, -decide_eq_false_iff_not]
        have : getP l = ([], 7) := by rw [← heq]; simp [getF, h1]
        rw [this]
        exact ⟨SLe.trans hg.le ((SLe.refl s').set hb _), by simp [errD]⟩
      | true =>
        simp only [if_true] at h1
        by_cases h120 : out.length = 120
        · have h120' : (out.length : Int) = 120 := by omega
          simp (maxSteps := 2000000) +contextual [e0, e4, h120', -decide_eq_true_eq, -decide_eq_false_iff_not]
          have : getP l = ([], 13) := by rw [← heq]; simp [getF, h1, h120]
          rw [this]
          exact ⟨SLe.trans hg.le ((SLe.refl s').set hb _), by simp [errD]⟩
        · have h120' : ¬ (out.length : Int) = 120 := by omega
          simp (maxSteps := 2000000) +contextual [e0, e4, h120', hb, insD_def, -decide_eq_true_eq, -decide_eq_false_iff_not]
          refine hg.appendT ((SLe.refl s').set hb _) [x] ?_ ?_ ?_ ?_ ?_
          · rfl
          · rfl
          · (try simp); omega
          · (try simp); omega
          intro out1 tok' s3 s4 ho hs hk hg'
          simp (maxSteps := 2000000) +contextual [e0, e4, hb, -decide_eq_true_eq, -decide_eq_false_iff_not]
          have := oneP_lt h1
          simp only [List.length_cons] at this
          refine ⟨m, by omega, s4, hs, tk, tok', rest, by omega, by omega, ⟨rfl, rfl⟩, out1, ⟨rfl, rfl⟩, hg', by rw [ho]; simp; omega, ?_⟩
          rw [ho, ← heq]
          simp [getF, h1, h120]

/-! The reference. -/
theorem c_rtxt (b : ByteArray) (hb : b.size ≤ 1048576) : RetL Try.prog 70 [.str b] ((txt b).map bD) := by
  refine RetL.of fun σ => ?_
  refine HCalls.start mixed false _ _ (fn := Try.f70) (by kernel_rfl) rfl (by kernel_rfl) rfl (by kernel_rfl) (by kernel_rfl) ?_
  simp (maxSteps := 2000000) +contextual [bD_length, -decide_eq_true_eq, -decide_eq_false_iff_not]
  rw [u8_nat]
  refine ⟨by omega, by omega, fun h => ?_, fun h c d _ _ => ?_⟩
  · simp [txt, h, bD_def]
  · simp [txt, bD_def]
theorem putI_len (x : Ins) : (putI x).length ≤ x.a.size + x.b.size + 3 := by
  have e1 : (txt x.a).length = x.a.size + 1 := by simp [txt]
  have e2 : (txt x.b).length = x.b.size + 1 := by simp [txt]
  unfold putI
  rw [List.length_cons, List.length_append]
  split <;> split <;> simp [e1, e2] <;> omega
theorem c_rput (l : List Ins) (t0 : Tok) (hl : FitL l) : RetL Try.prog 25 [.list (l.map insD) t0] ((putL l).map bD) := by
  refine RetL.of fun σ => ?_
  refine HCalls.start mixed false _ _ (fn := Try.f25) (by kernel_rfl) rfl (by kernel_rfl) rfl (by kernel_rfl) (by kernel_rfl) ?_
  have hl1 := hl.1
  simp (maxSteps := 2000000) +contextual [-decide_eq_true_eq, -decide_eq_false_iff_not]
  refine hloop_intro (fun n e s => ∃ (i : Nat) (tok : Tok) (out : List UInt8), i + n = l.length ∧ e 0 = .list (l.map insD) t0 ∧ e 4 = .int .i64 i ∧ e 3 = .list (out.map bD) tok ∧ Gr 1 σ (out.map bD) tok s ∧ putL (l.take i) = out ∧ out.length ≤ 2097156 * i) l.length ?_ ?_
  · exact ⟨0, .nil, [], by simp [putL]; exact .nil⟩
  · rintro n e s ⟨i, tok, out, hi, e0, e4, e3, hg, ho, hlen⟩
    by_cases h4 : i < l.length
    · obtain ⟨x, hx, hx2⟩ : ∃ x, l[i]? = some x ∧ l[i] = x := ⟨_, List.getElem?_eq_getElem h4, rfl⟩
      obtain ⟨hxa, hxb⟩ := hl.2 x (List.mem_of_getElem? hx)
      have hnext := putL_next hx
      rw [ho] at hnext
      have hpl := putI_len x
      simp (maxSteps := 2000000) +contextual [e0, e4, e3, insD_length, insD_def, bD_length, h4, hx, hx2, -decide_eq_true_eq, -decide_eq_false_iff_not]
      rw [u8_int]
      refine hg.appendT (SLe.refl s) [UInt8.ofInt x.op] ?_ ?_ ?_ ?_ ?_
      · rfl
      · rfl
      · simp; omega
      · simp; omega
      intro out1 tok1 s1 s2 ho1 hs1 hk1 hg1
      have hl1 : out1.length = out.length + 1 := by rw [ho1]; simp
      simp (maxSteps := 2000000) +contextual [e0, e4, e3, insD_length, insD_def, bD_length, h4, hx, hx2, -decide_eq_true_eq, -decide_eq_false_iff_not]
      refine c_rtexts x.op _ _ ?_
      have last : ∀ out3 tok3 s3 s4, out3 = out ++ putI x → SLe s4 s3 → Gr 1 σ (List.map bD out3) tok3 s4 → ∃ m, m < n ∧ ∃ s'', SLe s'' s3 ∧ ∃ i_1 : Nat, i_1 + m = l.length ∧ IntKind.i64.wrap (↑i + 1) = ↑i_1 ∧ ∃ x, ∃ x_1, (List.map bD out3 = List.map bD x_1 ∧ tok3 = x) ∧ Gr 1 σ (List.map bD x_1) x s'' ∧ putL (l.take i_1) = x_1 ∧ x_1.length ≤ 2097156 * i_1 := by
        intro out3 tok3 s3 s4 h1 h2 h3
        refine ⟨n - 1, by omega, s4, h2, i + 1, by omega, by rw [wrap_i64] <;> omega, tok3, out3, ⟨rfl, rfl⟩, h3, by rw [hnext, h1], ?_⟩
        rw [h1, List.length_append]; omega
      have h3 : texts x.op = 0 ∨ texts x.op = 1 ∨ texts x.op = 2 := by have := texts_le x.op; omega
      rcases h3 with h3 | h3 | h3
      · simp (maxSteps := 2000000) +contextual [e0, e4, e3, insD_length, insD_def, bD_length, h4, hx, h3, hx2, -decide_eq_true_eq, -decide_eq_false_iff_not]
        refine c_rtexts x.op _ _ ?_
        simp (maxSteps := 2000000) +contextual [e0, e4, e3, insD_length, insD_def, bD_length, h4, hx, h3, hx2, -decide_eq_true_eq, -decide_eq_false_iff_not]
        exact last out1 tok1 s1 s2 (by rw [ho1]; simp [putI, h3]) hs1 hg1
      · simp (maxSteps := 2000000) +contextual [e0, e4, e3, insD_length, insD_def, bD_length, h4, hx, h3, hx2, -decide_eq_true_eq, -decide_eq_false_iff_not]
        refine c_rtxt x.a hxa _ _ fun t5 => ?_
        simp (maxSteps := 2000000) +contextual [e0, e4, e3, insD_length, insD_def, bD_length, h4, hx, h3, hx2, -decide_eq_true_eq, -decide_eq_false_iff_not]
        have ela : (txt x.a).length = x.a.size + 1 := by simp [txt]
        refine hg1.appendT hs1 (txt x.a) ?_ ?_ ?_ ?_ ?_
        · rfl
        · rfl
        · (try simp); omega
        · (try simp); omega
        intro out5 tok5 s5 s6 ho5 hs5 hk5 hg5
        simp (maxSteps := 2000000) +contextual [e0, e4, e3, insD_length, insD_def, bD_length, h4, hx, h3, hx2, -decide_eq_true_eq, -decide_eq_false_iff_not]
        refine c_rtexts x.op _ _ ?_
        simp (maxSteps := 2000000) +contextual [e0, e4, e3, insD_length, insD_def, bD_length, h4, hx, h3, hx2, -decide_eq_true_eq, -decide_eq_false_iff_not]
        exact last out5 tok5 s5 s6 (by rw [ho5, ho1]; simp [putI, h3]) hs5 hg5
      · simp (maxSteps := 2000000) +contextual [e0, e4, e3, insD_length, insD_def, bD_length, h4, hx, h3, hx2, -decide_eq_true_eq, -decide_eq_false_iff_not]
        refine c_rtxt x.a hxa _ _ fun t5 => ?_
        simp (maxSteps := 2000000) +contextual [e0, e4, e3, insD_length, insD_def, bD_length, h4, hx, h3, hx2, -decide_eq_true_eq, -decide_eq_false_iff_not]
        have ela : (txt x.a).length = x.a.size + 1 := by simp [txt]
        have elb : (txt x.b).length = x.b.size + 1 := by simp [txt]
        refine hg1.appendT hs1 (txt x.a) ?_ ?_ ?_ ?_ ?_
        · rfl
        · rfl
        · (try simp); omega
        · (try simp); omega
        intro out5 tok5 s5 s6 ho5 hs5 hk5 hg5
        have hl5 : out5.length = out1.length + (txt x.a).length := by rw [ho5]; simp
        simp (maxSteps := 2000000) +contextual [e0, e4, e3, insD_length, insD_def, bD_length, h4, hx, h3, hx2, -decide_eq_true_eq, -decide_eq_false_iff_not]
        refine c_rtexts x.op _ _ ?_
        simp (maxSteps := 2000000) +contextual [e0, e4, e3, insD_length, insD_def, bD_length, h4, hx, h3, hx2, -decide_eq_true_eq, -decide_eq_false_iff_not]
        refine c_rtxt x.b hxb _ _ fun t7 => ?_
        simp (maxSteps := 2000000) +contextual [e0, e4, e3, insD_length, insD_def, bD_length, h4, hx, h3, hx2, -decide_eq_true_eq, -decide_eq_false_iff_not]
        refine hg5.appendT hs5 (txt x.b) ?_ ?_ ?_ ?_ ?_
        · rfl
        · rfl
        · (try simp); omega
        · (try simp); omega
        intro out7 tok7 s7 s8 ho7 hs7 hk7 hg7
        simp (maxSteps := 2000000) +contextual [e0, e4, e3, insD_length, insD_def, bD_length, h4, hx, h3, hx2, -decide_eq_true_eq, -decide_eq_false_iff_not]
        exact last out7 tok7 s7 s8 (by rw [ho7, ho5, ho1]; simp [putI, h3]) hs7 hg7
    · simp (maxSteps := 2000000) +contextual [e0, e4, e3, h4, -decide_eq_true_eq, -decide_eq_false_iff_not]
      rw [List.take_of_length_le (by omega)] at ho
      exact ⟨hg.le, by rw [ho]⟩
/-- A list of structs is the same as another one. -/
theorem c_rsame (l m : List Ins) (t1 t2 : Tok) (hl : l.length ≤ 1048576) : Ret Try.prog 29 [.list (l.map insD) t1, .list (m.map insD) t2] (.bool (decide (l = m))) := by
  refine Ret.of fun σ => ?_
  refine HCalls.start mixed false _ _ (fn := Try.f29) (by kernel_rfl) rfl (by kernel_rfl) rfl (by kernel_rfl) (by kernel_rfl) ?_
  simp (maxSteps := 2000000) +contextual [-decide_eq_true_eq, -decide_eq_false_iff_not]
  refine ⟨fun h1 => ?_, fun h1 => ?_⟩
  · intro h; subst h; simp at h1
  · have hlm : l.length = m.length := by have := dec_t h1; omega
    refine hloop_fix (fun n e => ∃ i : Nat, i + n = l.length ∧ e 0 = .list (l.map insD) t1 ∧ e 1 = .list (m.map insD) t2 ∧ e 5 = .int .i64 i ∧ ∀ j, j < i → l[j]? = m[j]?) l.length ?_ ?_
    · exact ⟨0, by simp⟩
    · rintro n e ⟨i, hi, e0, e1, e5, hok⟩
      simp (maxSteps := 2000000) +contextual [e0, e1, e5, -decide_eq_true_eq, -decide_eq_false_iff_not]
      refine ⟨fun h4 => hdraw_intro (by kernel_rfl) ?_, fun h4 => ?_⟩
      · have h4 := dec_t h4
        simp (maxSteps := 2000000) +contextual [e0, e1, e5, insD_length, insD_def, -decide_eq_true_eq, -decide_eq_false_iff_not]
        refine ⟨h4, fun x hx => ⟨by omega, fun y hy => ⟨fun h5 h => ?_, fun e1 e2 e3 => ⟨n - 1, by omega, i + 1, by omega, by rw [wrap_i64] <;> omega, fun j hj => ?_⟩⟩⟩⟩
        · subst h
          rw [hx] at hy; injection hy with hy; subst hy
          simp at h5
        · by_cases hji : j = i
          · subst hji
            rw [hx, hy]
            have : x = y := by cases x; cases y; simp at e1 e2 e3; subst e1 e2 e3; rfl
            rw [this]
          · exact hok j (by omega)
      · have h4 := dec_f h4
        apply List.ext_getElem?
        intro j
        by_cases hj : j < i
        · exact hok j hj
        · rw [List.getElem?_eq_none (by omega), List.getElem?_eq_none (by omega)]
theorem cmp_code : ∃ a, Try.prog.info? 39 = some a ∧ a.comparable = true := by
  have : ((Try.prog.info? 39).map (·.comparable)) = some true := by kernel_rfl
  simpa using this
theorem c_err (n : Nat) (hn : n ≤ 13) : Ret Try.prog 28 [errD n] (.int .i64 n) := by
  refine Ret.of fun σ => ?_
  refine HCalls.start mixed false _ _ (fn := Try.f28) (by kernel_rfl) rfl (by kernel_rfl) rfl (by kernel_rfl) (by kernel_rfl) ?_
  by_cases h0 : n = 0
  · subst h0; simp (maxSteps := 2000000) +contextual [-decide_eq_true_eq, -decide_eq_false_iff_not]
  · have he : errD n = .lit (.iface 39 (.int .i64 n)) := by simp [errD, h0]
    rw [he]
    simp (maxSteps := 2000000) +contextual [-decide_eq_true_eq, -decide_eq_false_iff_not]
    refine hloop_fix (fun k e => ∃ i : Nat, i + k = 14 ∧ 1 ≤ i ∧ i ≤ n ∧ e 0 = .lit (.iface 39 (.int .i64 n)) ∧ e 3 = .int .i64 i) 13 ?_ ?_
    · exact ⟨1, by omega, by omega, by omega, by simp⟩
    · rintro k e ⟨i, hi, h1, h2, e0, e3⟩
      simp (maxSteps := 2000000) +contextual [e0, e3, -decide_eq_true_eq, -decide_eq_false_iff_not]
      refine ⟨fun _ => ⟨cmp_code, fun h => by have := dec_t h; omega, fun h => ?_⟩, by simp; omega⟩
      have := dec_f h
      exact ⟨k - 1, by omega, i + 1, by omega, by omega, by omega, by rw [wrap_i64] <;> omega⟩
end Go.HL
