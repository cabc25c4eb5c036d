/- Programs as bytes: the reference's reading, and the laws CodePuts, CodeGets, CodeBack. -/
import Derived.Test.YtdbbbhjajkobaabGcode
set_option linter.unusedVariables false
set_option linter.unusedSimpArgs false
set_option maxRecDepth 100000
set_option maxHeartbeats 1000000
namespace Go.HL
open Go.RowKit Go.Proofs

theorem txtP_suf {l r : List UInt8} {a : ByteArray} (h : txtP l = some (a, r)) : ∃ pre, l = pre ++ r ∧ 0 < pre.length := by
  cases l with
  | nil => simp [txtP] at h
  | cons c t =>
    simp only [txtP] at h
    split at h
    · injection h with h; injection h with h1 h2
      exact ⟨c :: t.take c.toNat, by rw [← h2]; simp, by simp⟩
    · cases h
theorem oneP_suf {l r : List UInt8} {x : Ins} (h : oneP l = some (x, r)) : ∃ pre, l = pre ++ r ∧ 0 < pre.length := by
  cases l with
  | nil => simp [oneP] at h
  | cons u t =>
    simp only [oneP, checkI] at h
    split at h
    · split at h
      · injection h with h; injection h with h1 h2; subst h2; exact ⟨[u], rfl, by simp⟩
      · cases h
    · split at h
      · cases h
      · rename_i a r1 ht
        obtain ⟨p1, e1, -⟩ := txtP_suf ht
        split at h
        · split at h
          · injection h with h; injection h with h1 h2; subst h2; exact ⟨u :: p1, by rw [e1]; rfl, by simp⟩
          · cases h
        · split at h
          · cases h
          · rename_i b r2 ht2
            obtain ⟨p2, e2, -⟩ := txtP_suf ht2
            split at h
            · injection h with h; injection h with h1 h2; subst h2; exact ⟨u :: (p1 ++ p2), by rw [e1, e2]; simp, by simp⟩
            · cases h
def contP (op : Int) : Nat → Nat → ByteArray → ByteArray → List UInt8 → Option (Ins × List UInt8)
  | 0, _, a, b, q => checkI ⟨op, a, b⟩ q
  | k + 1, j, a, b, q => match txtP q with
    | none => none
    | some (s, q') => if j = 0 then contP op k 1 s b q' else contP op k (j + 1) a s q'
theorem oneP_cont (u : UInt8) (r : List UInt8) : oneP (u :: r) = contP u.toNat (texts u.toNat) 0 ⟨#[]⟩ ⟨#[]⟩ r := by
  have := texts_le u.toNat
  rcases h : texts u.toNat with _ | _ | _ | n
  · simp [oneP, contP, h]
  · simp only [oneP, contP, h]; simp; rfl
  · simp only [oneP, contP, h]; simp; rfl
  · omega
def roneD (l : List UInt8) : D := match oneP l with
  | some (x, r) => .tup [.agg (insD x), .int .i64 ((l.length : Int) - r.length)]
  | none => .tup [.agg (insD ⟨0, ⟨#[]⟩, ⟨#[]⟩⟩), .int .i64 0]
end Go.HL
