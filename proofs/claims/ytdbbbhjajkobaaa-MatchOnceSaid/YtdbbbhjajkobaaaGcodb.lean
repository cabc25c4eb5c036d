/- Programs as bytes: the reference's reading, and the laws CodePuts, CodeGets, CodeBack. -/
import Derived.Test.YtdbbbhjajkobaaaGcode
set_option linter.unusedVariables false
set_option linter.unusedSimpArgs false
set_option maxRecDepth 100000
set_option maxHeartbeats 1000000
namespace Go.HL
open Go.RowKit Go.Proofs

theorem txtP_suf {l r : List UInt8} {a : ByteArray} (h : txtP l = some (a, r)) : ∃ pre, l = pre ++ r ∧ 0 < pre.length := by
  cases l with
  | nil => simp [txtP] at h
  | cons c t =>
    simp only [txtP] at h
    split at h
    · injection h with h; injection h with h1 h2
      exact ⟨c :: t.take c.toNat, by rw [← h2]; simp, by simp⟩
    · cases h
theorem oneP_suf {l r : List UInt8} {x : Ins} (h : oneP l = some (x, r)) : ∃ pre, l = pre ++ r ∧ 0 < pre.length := by
  cases l with
  | nil => simp [oneP] at h
  | cons u t =>
    simp only [oneP, checkI] at h
    split at h
    · split at h
      · injection h with h; injection h with h1 h2; subst h2; exact ⟨[u], rfl, by simp⟩
      · cases h
    · split at h
      · cases h
      · rename_i a r1 ht
        obtain ⟨p1, e1, -⟩ := txtP_suf ht
        split at h
        · split at h
          · injection h with h; injection h with h1 h2; subst h2; exact ⟨u :: p1, by rw [e1]; rfl, by simp⟩
          · cases h
        · split at h
          · cases h
          · rename_i b r2 ht2
            obtain ⟨p2, e2, -⟩ := txtP_suf ht2
            split at h
            · injection h with h; injection h with h1 h2; subst h2; exact ⟨u :: (p1 ++ p2), by rw [e1, e2]; simp, by simp⟩
            · cases h
def contP (op : Int) : Nat → Nat → ByteArray → ByteArray → List UInt8 → Option (Ins × List UInt8)
  | 0, _, a, b, q => checkI ⟨op, a, b⟩ q
  | k + 1, j, a, b, q => match txtP q with
    | none => none
    | some (s, q') => if j = 0 then contP op k 1 s b q' else contP op k (j + 1) a s q'
theorem oneP_cont (u : UInt8) (r : List UInt8) : oneP (u :: r) = contP u.toNat (texts u.toNat) 0 ⟨#[]⟩ ⟨#[]⟩ r := by
  have := texts_le u.toNat
  rcases h : texts u.toNat with _ | _ | _ | n
  · simp [oneP, contP, h]
  · simp only [oneP, contP, h]; simp; rfl
  · simp only [oneP, contP, h]; simp; rfl
  · omega
def roneD (l : List UInt8) : D := match oneP l with
  | some (x, r) => .tup [.agg (insD x), .int .i64 ((l.length : Int) - r.length)]
  | none => .tup [.agg (insD ⟨0, ⟨#[]⟩, ⟨#[]⟩⟩), .int .i64 0]
theorem c_rone (u : UInt8) (r : List UInt8) (t0 : Tok) (hl : r.length ≤ 1048576) : Ret Try.prog 72 [.list ((u :: r).map bD) t0] (roneD (u :: r)) := by
  refine Ret.of fun σ => ?_
  refine HCalls.start mixed false _ _ (fn := Try.f72) (by kernel_rfl) rfl (by kernel_rfl) rfl (by kernel_rfl) (by kernel_rfl) ?_
  simp (maxSteps := 2000000) +contextual [bD_length, bD_def, wrap_c, -decide_eq_true_eq, -decide_eq_false_iff_not]
  intro b hb b1 n1 hb1
  have hbD : ∀ a : UInt8, [D.int .u8 (a.toNat : Int)] = bD a := fun a => rfl
  generalize hL : u :: r = L
  have hLl : L.length = r.length + 1 := by rw [← hL]; rfl
  have hLm : [D.int .u8 (u.toNat : Int)] :: r.map bD = L.map bD := by rw [← hL]; rfl
  refine hloop_intro (fun n e s => ∃ (j k : Nat) (pre q : List UInt8) (x y : ByteArray), k ≤ n ∧ j + k = texts u.toNat ∧ L = pre ++ q ∧ e 0 = .list (L.map bD) t0 ∧ e 2 = .ptr b 0 ∧ e 4 = .ptr b1 0 ∧ e 5 = .int .i64 pre.length ∧ e 6 = .int .i64 j ∧
    s = (σ.set b (.cells [.int .i64 0, .str ⟨#[]⟩, .str ⟨#[]⟩])).set b1 (.cells [.int .i64 u.toNat, .str x, .str y]) ∧ oneP L = contP u.toNat k j x y q ∧ x.size ≤ 255 ∧ y.size ≤ 255) 2 ?_ ?_
  · refine ⟨0, texts u.toNat, [u], r, ⟨#[]⟩, ⟨#[]⟩, texts_le _, by omega, hL.symm, ?_⟩
    simp (maxSteps := 2000000) +contextual [hLm, -decide_eq_true_eq, -decide_eq_false_iff_not]
    rw [← hL]
    exact ⟨oneP_cont u r, Nat.zero_le _⟩
  · rintro n e s ⟨j, k, pre, q, x, y, hkn, hjk, hpq, e0, e2, e4, e5, e6, rfl, heq, hx, hy⟩
    have hlen : L.length = pre.length + q.length := by rw [hpq]; simp
    have ht2 := texts_le u.toNat
    simp (maxSteps := 2000000) +contextual [e0, e2, e4, e5, e6, hb, hb1, n1, -decide_eq_true_eq, -decide_eq_false_iff_not]
    refine c_rtexts _ _ _ ?_
    cases k with
    | zero =>
      have hj : ¬ (j : Int) < (texts u.toNat : Int) := by omega
      simp (maxSteps := 2000000) +contextual [e0, e2, e4, e5, e6, hb, hb1, n1, hj, -decide_eq_true_eq, -decide_eq_false_iff_not]
      refine c_rmayI ⟨u.toNat, x, y⟩ ⟨by simp; omega, by simp; omega⟩ _ _ ?_
      have h2 : roneD L = if mayIns ⟨u.toNat, x, y⟩ then .tup [.agg (insD ⟨u.toNat, x, y⟩), .int .i64 pre.length] else .tup [.agg (insD ⟨0, ⟨#[]⟩, ⟨#[]⟩⟩), .int .i64 0] := by
        unfold roneD
        rw [heq]
        simp only [contP, checkI]
        cases mayIns ⟨u.toNat, x, y⟩ with
        | true => simp only [if_true]; congr 3; congr 2; omega
        | false => rfl
      rw [h2]
      simp (maxSteps := 2000000) +contextual [e0, e2, e4, e5, e6, hb, hb1, n1, hj, -decide_eq_true_eq, -decide_eq_false_iff_not]
      exact ⟨fun _ => ⟨by (intro xx oo hh; simp only [Store.set] at hh ⊢; grind), rfl⟩, fun _ => ⟨by (intro xx oo hh; simp only [Store.set] at hh ⊢; grind), rfl⟩⟩
    | succ k =>
      have hj : (j : Int) < (texts u.toNat : Int) := by omega
      have none' : txtP q = none → .tup [.agg [.int .i64 0, .str ⟨#[]⟩, .str ⟨#[]⟩], .int .i64 0] = roneD L := fun h => by
        unfold roneD
        rw [heq]
        simp [contP, h, insD]
      cases q with
      | nil =>
        have hge : L.length ≤ pre.length := by rw [hlen]; simp
        simp (maxSteps := 2000000) +contextual [e0, e2, e4, e5, e6, hb, hb1, n1, hj, hge, -decide_eq_true_eq, -decide_eq_false_iff_not]
        exact ⟨by (intro xx oo hh; simp only [Store.set] at hh ⊢; grind), none' rfl⟩
      | cons c q =>
        simp only [List.length_cons] at hlen
        have hge : ¬ L.length ≤ pre.length := by omega
        have hlt : pre.length < L.length := by omega
        have hget : L[pre.length]? = some c := by rw [hpq]; simp
        have hget2 : ∀ h : pre.length < L.length, L[pre.length] = c := fun h => by have := List.getElem?_eq_getElem h; rw [hget] at this; injection this with this; exact this.symm
        have hcl := u8_lt c
        have w1 : IntKind.i64.wrap ((pre.length : Int) + 1) = (pre.length : Int) + 1 := by rw [wrap_i64] <;> omega
        have w2 : IntKind.i64.wrap ((pre.length : Int) + 1 + c.toNat) = (pre.length : Int) + 1 + c.toNat := by rw [wrap_i64] <;> omega
        have w3 : IntKind.i64.wrap ((j : Int) + 1) = ((j + 1 : Nat) : Int) := by rw [wrap_i64] <;> omega
        have w4 : ((pre.length : Int) + 1 + c.toNat).toNat = pre.length + 1 + c.toNat := by omega
        by_cases hfit : c.toNat ≤ q.length
        · have hgt : ¬ (L.length : Int) < (pre.length : Int) + 1 + c.toNat := by omega
          have hle : pre.length + 1 + c.toNat ≤ L.length := by omega
          have hcut : List.drop (pre.length + 1) (List.take (pre.length + 1 + c.toNat) (L.map bD)) = (q.take c.toNat).map bD := by
            rw [← List.map_take, ← List.map_drop, hpq]
            congr 1
            have : pre ++ c :: q = (pre ++ [c]) ++ q := by simp
            rw [this, List.take_append, List.drop_append]
            simp
          have htx : txtP (c :: q) = some (⟨⟨q.take c.toNat⟩⟩, q.drop c.toNat) := by simp [txtP, hfit]
          have hsz : (⟨⟨q.take c.toNat⟩⟩ : ByteArray).size ≤ 255 := by simp [ByteArray.size]; omega
          have hsz2 : ∀ e ∈ List.take c.toNat (List.map bD q), e.length = 1 := fun e he => by
            obtain ⟨z, -, rfl⟩ := List.mem_map.1 (List.mem_of_mem_take he); rfl
          have hsplit : L = (pre ++ c :: q.take c.toNat) ++ q.drop c.toNat := by rw [hpq]; simp
          have hpl : (pre.length : Int) + 1 + c.toNat = ((pre ++ c :: q.take c.toNat).length : Nat) := by simp; omega
          have hle' : (pre.length : Int) + 1 + c.toNat ≤ L.length := by omega
          by_cases hj0 : j = 0
          · subst hj0
            have hj2 : 0 < texts u.toNat := by omega
            simp (maxSteps := 2000000) +contextual [e0, e2, e4, e5, e6, hb, hb1, n1, hj2, hge, hget, hget2, hlt, bD_def, wrap_c, w1, w2, w4, hgt, hcut, -decide_eq_true_eq, -decide_eq_false_iff_not]
            refine ⟨by omega, hsz2, ?_⟩
            rw [← List.map_take, ex_bytes]
            exact ⟨n - 1, by omega, _, SLe.refl _, 1, k, by omega, by omega, _, _, hsplit, hpl, by rw [wrap_i64] <;> omega, _, _, rfl, by rw [heq]; simp [contP, htx], hsz, hy⟩
          · simp (maxSteps := 2000000) +contextual [e0, e2, e4, e5, e6, hb, hb1, n1, hj, hj0, hge, hget, hget2, hlt, bD_def, wrap_c, w1, w2, w4, hgt, hcut, -decide_eq_true_eq, -decide_eq_false_iff_not]
            refine ⟨by omega, hsz2, ?_⟩
            rw [← List.map_take, ex_bytes]
            exact ⟨n - 1, by omega, _, SLe.refl _, j + 1, k, by omega, by omega, _, _, hsplit, hpl, w3, _, _, rfl, by rw [heq]; simp [contP, htx, hj0], hx, hsz⟩
        · have hgt : (L.length : Int) < (pre.length : Int) + 1 + c.toNat := by omega
          simp (maxSteps := 2000000) +contextual [e0, e2, e4, e5, e6, hb, hb1, n1, hj, hge, hget, hget2, hlt, bD_def, wrap_c, w1, w2, hgt, -decide_eq_true_eq, -decide_eq_false_iff_not]
          exact ⟨by (intro xx oo hh; simp only [Store.set] at hh ⊢; grind), none' (by simp [txtP, hfit])⟩

theorem c_rget (l : List UInt8) (t0 : Tok) (hl : l.length ≤ 1048576) : RetLs Try.prog 27 [.list (l.map bD) t0] ((getP l).1.map insD) [.int .i64 (getP l).2] := by
  refine RetLs.of fun σ => ?_
  refine HCalls.start mixed false _ _ (fn := Try.f27) (by kernel_rfl) rfl (by kernel_rfl) rfl (by kernel_rfl) (by kernel_rfl) ?_
  simp (maxSteps := 2000000) +contextual [-decide_eq_true_eq, -decide_eq_false_iff_not]
  refine hloop_intro (fun n e s => ∃ (t0 tok : Tok) (rest : List UInt8) (out : List Ins), rest.length ≤ n ∧ rest.length ≤ 1048576 ∧ e 0 = .list (rest.map bD) t0 ∧ e 4 = .list (out.map insD) tok ∧ Gr 3 σ (out.map insD) tok s ∧ out.length ≤ 120 ∧ getF n rest out = getP l) l.length ?_ ?_
  · exact ⟨t0, .nil, l, [], by simp, hl, by simp, by simp, .nil, by simp, rfl⟩
  · rintro n e s ⟨t0, tok, rest, out, hr, hrl, e0, e4, hg, hol, heq⟩
    cases rest with
    | nil =>
      simp (maxSteps := 2000000) +contextual [e0, e4, -decide_eq_true_eq, -decide_eq_false_iff_not]
      have : getP l = (out, 0) := by rw [← heq]; cases n <;> simp [getF]
      rw [this]
      exact ⟨hg.le, by simp⟩
    | cons u r =>
      have hpos : 0 < (r.length : Int) + 1 := by omega
      simp only [List.length_cons] at hr hrl
      simp (maxSteps := 2000000) +contextual [e0, e4, hpos, -decide_eq_true_eq, -decide_eq_false_iff_not]
      refine c_rone u r t0 (by omega) _ _ ?_
      unfold roneD
      obtain ⟨m, rfl⟩ : ∃ m, n = m + 1 := ⟨n - 1, by omega⟩
      cases h1 : oneP (u :: r) with
      | none =>
        simp (maxSteps := 2000000) +contextual [e0, e4, insD_length, insD_def, -decide_eq_true_eq, -decide_eq_false_iff_not]
        intro b hb
        have : getP l = ([], 7) := by rw [← heq]; simp [getF, h1]
        rw [this]
        exact ⟨SLe.trans hg.le ((SLe.refl s).set hb _), by simp⟩
      | some p =>
        obtain ⟨x, rest⟩ := p
        obtain ⟨pre, hpre, hp0⟩ := oneP_suf h1
        have hlen : r.length + 1 = pre.length + rest.length := by have := congrArg List.length hpre; simpa using this
        have hn0 : ¬ ((r.length : Int) + 1 - rest.length = 0) := by omega
        have hdr : List.drop (r.length + 1 - rest.length) ([D.int .u8 (u.toNat : Int)] :: r.map bD) = rest.map bD := by
          have e1 : r.length + 1 - rest.length = pre.length := by omega
          have e2 : ([D.int .u8 (u.toNat : Int)] :: r.map bD) = (u :: r).map bD := rfl
          rw [e1, e2, hpre, ← List.map_drop, List.drop_left' rfl]
        simp (maxSteps := 2000000) +contextual [e0, e4, insD_length, insD_def, hn0, -decide_eq_true_eq, -decide_eq_false_iff_not]
        intro b hb
        by_cases h120 : out.length = 120
        · have h120' : (out.length : Int) = 120 := by omega
          simp (maxSteps := 2000000) +contextual [e0, e4, h120', -decide_eq_true_eq, -decide_eq_false_iff_not]
          have : getP l = ([], 13) := by rw [← heq]; simp [getF, h1, h120]
          rw [this]
          exact ⟨SLe.trans hg.le ((SLe.refl s).set hb _), by simp⟩
        · have h120' : ¬ (out.length : Int) = 120 := by omega
          simp (maxSteps := 2000000) +contextual [e0, e4, h120', hb, insD_def, -decide_eq_true_eq, -decide_eq_false_iff_not]
          refine hg.appendT ((SLe.refl s).set hb _) [x] ?_ ?_ ?_ ?_ ?_
          · rfl
          · rfl
          · simp; omega
          · simp; omega
          intro out1 tok' s3 s4 ho hs hk hg'
          have etk : List.take r.length (r.map bD) = r.map bD := List.take_of_length_le (by simp)
          simp (maxSteps := 2000000) +contextual [e0, e4, hb, bD_length, bD_def, etk, hdr, -decide_eq_true_eq, -decide_eq_false_iff_not]
          refine ⟨by omega, m, by omega, s4, hs, .ro, tok', rest, by omega, by omega, ⟨rfl, rfl⟩, out1, ⟨rfl, rfl⟩, hg', by rw [ho]; simp; omega, ?_⟩
          rw [ho, ← heq]
          simp [getF, h1, h120]
end Go.HL
