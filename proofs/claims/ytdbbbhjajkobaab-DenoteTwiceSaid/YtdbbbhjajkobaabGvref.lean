/- Programs that may be: the reference's answer. -/
import Derived.Test.YtdbbbhjajkobaabGvalid
set_option linter.unusedVariables false
set_option linter.unusedSimpArgs false
set_option maxRecDepth 100000
set_option maxHeartbeats 1000000
namespace Go.HL
open Go.RowKit Go.Proofs

def natD (n : Nat) : List D := [.int .i64 (n : Int)]
theorem natD_length (n : Nat) : (natD n).length = 1 := rfl
@[simp high] theorem flatN_length (l : List Nat) (rest : List D) : ((l.map natD).flatten ++ rest).length = l.length * 1 + rest.length := by
  rw [List.length_append, flat_length natD 1 natD_length]
def stepS (st : List Nat) (i : Nat) (x : Ins) : List Nat := if x.op = 1 then st ++ [i + 1] else if x.op = 2 then st.dropLast else st
def stkF : List Ins → Nat → List Nat → List Nat
  | [], _, st => st
  | x :: r, i, st => stkF r (i + 1) (stepS st i x)
def stk (l : List Ins) (a : Nat) : List Nat := stkF (l.take a) 0 []
theorem stkF_append (l m : List Ins) (i : Nat) (st : List Nat) : stkF (l ++ m) i st = stkF m (i + l.length) (stkF l i st) := by
  induction l generalizing i st with
  | nil => rfl
  | cons x l ih => simp only [List.cons_append, stkF, ih, List.length_cons]; congr 1; omega
theorem stk_next {l : List Ins} {i : Nat} {x : Ins} (hx : l[i]? = some x) : stk l (i + 1) = stepS (stk l i) i x := by
  have hi : i < l.length := (List.getElem?_eq_some_iff.1 hx).1
  unfold stk
  rw [take_next hx, stkF_append]
  have : (l.take i).length = i := by simp; omega
  rw [this, Nat.zero_add]; rfl
theorem stk_le (l : List Ins) (i : Nat) (hi : i ≤ l.length) : (stk l i).length ≤ i ∧ ∀ n ∈ stk l i, n ≤ i := by
  induction i with
  | zero => simp [stk, stkF]
  | succ i ih =>
    have hx := List.getElem?_eq_getElem (show i < l.length by omega)
    rw [stk_next hx]
    obtain ⟨h1, h2⟩ := ih (by omega)
    unfold stepS
    split
    · refine ⟨by simp; omega, fun n hn => ?_⟩
      rcases List.mem_append.1 hn with hn | hn
      · have := h2 n hn; omega
      · simp at hn; omega
    · split
      · refine ⟨by simp; omega, fun n hn => ?_⟩
        have := h2 n (List.dropLast_subset _ hn); omega
      · exact ⟨by omega, fun n hn => by have := h2 n hn; omega⟩
def beginP (l : List Ins) (a : Nat) : Nat := (stk l a).getLast?.getD 0
/-- What stands at the same place, ahead. -/
def scanA : List Ins → Int → List Ins
  | [], _ => []
  | x :: r, d => (if d = 0 ∧ ¬ x.op = 2 then [x] else []) ++ scanA r (if x.op = 1 then d + 1 else if x.op = 2 then d - 1 else d)
def depA : List Ins → Int → Int
  | [], d => d
  | x :: r, d => depA r (if x.op = 1 then d + 1 else if x.op = 2 then d - 1 else d)
theorem scanA_append (l m : List Ins) (d : Int) : scanA (l ++ m) d = scanA l d ++ scanA m (depA l d) := by
  induction l generalizing d with
  | nil => rfl
  | cons x l ih => simp [scanA, depA, ih]
theorem depA_append (l m : List Ins) (d : Int) : depA (l ++ m) d = depA m (depA l d) := by
  induction l generalizing d with
  | nil => rfl
  | cons x l ih => simp [depA, ih]
theorem scanA_le (l : List Ins) (d : Int) : (scanA l d).length ≤ l.length := by
  induction l generalizing d with
  | nil => simp [scanA]
  | cons x l ih =>
    have := ih (if x.op = 1 then d + 1 else if x.op = 2 then d - 1 else d)
    simp only [scanA, List.length_append, List.length_cons]
    split <;> simp <;> omega
theorem depA_le (l : List Ins) (d : Int) : d - l.length ≤ depA l d ∧ depA l d ≤ d + l.length := by
  induction l generalizing d with
  | nil => simp [depA]
  | cons x l ih =>
    have := ih (if x.op = 1 then d + 1 else if x.op = 2 then d - 1 else d)
    simp only [depA, List.length_cons]
    split at this
    · rename_i h; simp only [h, if_true]; omega
    · rename_i h
      simp only [h, if_false]
      split at this
      · rename_i h; simp only [h, if_true]; omega
      · rename_i h; simp only [h, if_false]; omega
/-- From one place to another. -/
def seg (l : List Ins) (i j : Nat) : List Ins := (l.take j).drop i
theorem seg_next {l : List Ins} {i j : Nat} {x : Ins} (hx : l[j]? = some x) (h : i ≤ j) : seg l i (j + 1) = seg l i j ++ [x] := by
  have hj := (List.getElem?_eq_some_iff.1 hx).1
  unfold seg
  rw [take_next hx, List.drop_append_of_le_length (by simp; omega)]
theorem seg_self (l : List Ins) (i : Nat) : seg l i i = [] := by
  unfold seg; rw [List.drop_eq_nil_of_le (by simp; omega)]
theorem beginP_le (l : List Ins) (a : Nat) (ha : a ≤ l.length) : beginP l a ≤ a := by
  unfold beginP
  cases h : (stk l a).getLast? with
  | none => simp
  | some t => exact (stk_le l a ha).2 t (List.mem_of_getLast? h)
def aheadP (l : List Ins) (a : Nat) : List Ins := scanA (seg l (beginP l a) a) 0
/-- An attribute's error: those told ahead of it, back to their element. -/
def backA : List Ins → ByteArray → Nat → Nat
  | [], _, _ => 9
  | x :: r, a, n => if isTell x.op then if x.a = a then 9 else backA r a (n + 1) else if 8 ≤ n ∨ isEl x.op = false then 9 else 0
def attrR (l : List Ins) (at' : Nat) (x : Ins) : Nat := backA (l.take at').reverse x.a 0
def hasKey (b : ByteArray) (y : Ins) : Bool := isEl y.op && decide (y.b = b)
/-- An instruction's error, the ones ahead of it being right. -/
def wrongP (l : List Ins) (a : Nat) (x : Ins) : Nat :=
  if mayIns x then
    if isTell x.op then attrR l a x
    else if x.op = 2 then if (stk l a).length = 0 then 8 else 0
    else if (aheadP l a).any (fun y => decide (y.op = 7)) then 11
    else if (isEl x.op && !decide (x.b = ⟨#[]⟩)) && (aheadP l a).any (hasKey x.b) then 10
    else if x.op = 1 ∧ 8 ≤ (stk l a).length then 12 else 0
  else 7
def anyKey (b : ByteArray) (A : List Ins) (i : Nat) : Bool := (A.take i).any (hasKey b)
theorem anyKey_succ {b : ByteArray} {A : List Ins} {i : Nat} {y : Ins} (h : A[i]? = some y) : anyKey b A (i + 1) = (anyKey b A i || hasKey b y) := by simp [anyKey, take_next h]
theorem aheadP_le (l : List Ins) (a : Nat) (ha : a ≤ l.length) : (aheadP l a).length ≤ l.length := by
  have := scanA_le (seg l (beginP l a) a) 0
  have h2 : (seg l (beginP l a) a).length ≤ l.length := by unfold seg; simp; omega
  unfold aheadP; omega
def runR (l : List Ins) : List Ins → Nat → Nat
  | [], _ => 0
  | x :: r, i => if wrongP l i x = 0 then runR l r (i + 1) else wrongP l i x
def checkR (l : List Ins) : Nat := if 120 < l.length then 13 else if runR l l 0 = 0 then if 0 < (stk l l.length).length then 8 else 0 else runR l l 0
end Go.HL
