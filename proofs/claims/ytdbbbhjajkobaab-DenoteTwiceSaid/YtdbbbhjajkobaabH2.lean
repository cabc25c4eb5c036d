/- Parts of the proofs, one behind the other: HLO HLL HLM HLN HLP. -/
import Derived.Test.YtdbbbhjajkobaabH1
import Derived.IntWalk
/- HL, part O: operations that may come up in any order: what depends on what. -/
set_option linter.unusedVariables false
set_option linter.unusedSimpArgs false
namespace Go.HL
open Go.RowKit
variable {P : Program} {lm : Bool} {σ : Store}

/-- What is asked hangs on one answer alone. -/
def One (f : Store → (D → Prop) → Prop) (σ : Store) (d : D) : Prop := (∀ σ' K, SLe σ σ' → K d → f σ' K) ∧ ∀ K, f σ K → K d
theorem One.at {A : Prop} {f : Store → (D → Prop) → Prop} {σ : Store} {d : D} (hA : A) (hf : ∀ σ' K, SLe σ σ' → (f σ' K ↔ A ∧ K d)) : One f σ d :=
  ⟨fun σ' K hs hk => (hf σ' K hs).2 ⟨hA, hk⟩, fun K h => ((hf σ K (SLe.refl σ)).1 h).2⟩

theorem hcond_one {d : D} {x y : D} {s : Store} {K0 : D → Prop} (h : hcond d (K0 x) (K0 y)) : ∃ z, One (fun _ K => hcond d (K x) (K y)) s z := by
  unfold hcond at h
  split at h
  · rename_i t
    cases t with
    | true => exact ⟨x, fun _ K _ hk => by simpa [hcond] using hk, fun K h => by simpa [hcond] using h⟩
    | false => exact ⟨y, fun _ K _ hk => by simpa [hcond] using hk, fun K h => by simpa [hcond] using h⟩
  · exact h.elim
theorem hload_one {T : TI} {a : D} {K0 : D → Prop} (h : hload T a σ K0) : ∃ z, One (fun σ K => hload T a σ K) σ z := by
  unfold hload at h
  split at h
  · rename_i b o
    split at h
    · rename_i ds e
      exact ⟨_, One.at h.1 fun σ' K hs => by simp only [hload, hs _ _ e]; exact Iff.rfl⟩
    · exact h.elim
  · exact ⟨_, One.at h.1 fun σ' K hs => by simp only [hload]; exact Iff.rfl⟩
  · exact h.elim
theorem eqBin_one {op : BinOp} {r : Bool} {K0 : D → Prop} (h : eqBin op r K0) : ∃ z, One (fun _ K => eqBin op r K) σ z := by
  cases op <;> first | exact ⟨_, One.at trivial fun _ K _ => by simp only [eqBin, true_and]; exact Iff.rfl⟩ | exact h.elim
theorem intBin_one {op : BinOp} {k : IntKind} {a b : Int} {K0 : D → Prop} (h : intBin op k a b K0) : ∃ z, One (fun _ K => intBin op k a b K) σ z := by
  cases op <;> first
    | exact ⟨_, One.at trivial fun _ K _ => by simp only [intBin, true_and]; exact Iff.rfl⟩
    | exact ⟨_, One.at h.1 fun _ K _ => by simp only [intBin]; exact Iff.rfl⟩
    | exact h.elim
theorem strBin_one {op : BinOp} {a b : ByteArray} {K0 : D → Prop} (h : strBin op a b K0) : ∃ z, One (fun _ K => strBin op a b K) σ z := by
  cases op <;> first
    | exact ⟨_, One.at trivial fun _ K _ => by simp only [strBin, true_and]; exact Iff.rfl⟩
    | exact ⟨_, One.at h.1 fun _ K _ => by simp only [strBin]; exact Iff.rfl⟩
    | exact h.elim
theorem shBin_one {op : BinOp} {k : IntKind} {a b : Int} {K0 : D → Prop} (h : shBin op k a b K0) : ∃ z, One (fun _ K => shBin op k a b K) σ z := by
  cases op <;> first
    | exact ⟨_, One.at h.1 fun _ K _ => by simp only [shBin]; exact Iff.rfl⟩
    | exact h.elim
theorem One.and {A : Prop} {f g : Store → (D → Prop) → Prop} {σ : Store} {d : D} (hA : A) (hf : ∀ σ K, g σ K ↔ A ∧ f σ K) (h : One f σ d) : One g σ d :=
  ⟨fun σ' K hs hk => (hf σ' K).2 ⟨hA, h.1 σ' K hs hk⟩, fun K hk => h.2 K ((hf σ K).1 hk).2⟩
theorem One.same {f g : Store → (D → Prop) → Prop} {σ : Store} {d : D} (hf : ∀ σ K, g σ K ↔ f σ K) (h : One f σ d) : One g σ d :=
  ⟨fun σ' K hs hk => (hf σ' K).2 (h.1 σ' K hs hk), fun K hk => h.2 K ((hf σ K).1 hk)⟩
theorem hbin_one {op : BinOp} {t : TypeId} {T : TI} {c : Bool} {a b : D} {K0 : D → Prop} (hT : T.kk.isSlice = false) (h : hbin P op t T c a b K0) : ∃ z, One (fun _ K => hbin P op t T c a b K) σ z := by
  unfold hbin at h
  split at h
  · split at h
    · rename_i hs
      obtain ⟨z, hz⟩ := shBin_one (σ := σ) h
      exact ⟨z, hz.same fun σ K => by simp only [hbin, hs, if_true]⟩
    · rename_i hs
      obtain ⟨z, hz⟩ := intBin_one (σ := σ) h.2
      exact ⟨z, hz.and h.1 fun σ K => by simp only [hbin, hs]; simp⟩
  · obtain ⟨z, hz⟩ := strBin_one (σ := σ) h
    exact ⟨z, hz.same fun σ K => by simp only [hbin]⟩
  · obtain ⟨z, hz⟩ := eqBin_one (σ := σ) h.2
    exact ⟨z, hz.and h.1 fun σ K => by simp only [hbin]⟩
  · obtain ⟨z, hz⟩ := eqBin_one (σ := σ) h.2
    exact ⟨z, hz.and h.1 fun σ K => by simp only [hbin]⟩
  · obtain ⟨z, hz⟩ := eqBin_one (σ := σ) h.2
    exact ⟨z, hz.and h.1 fun σ K => by simp only [hbin]⟩
  · obtain ⟨z, hz⟩ := eqBin_one (σ := σ) h.2
    exact ⟨z, hz.and h.1 fun σ K => by simp only [hbin]⟩
  · obtain ⟨z, hz⟩ := eqBin_one (σ := σ) h.2
    exact ⟨z, hz.and h.1 fun σ K => by simp only [hbin]⟩
  · obtain ⟨z, hz⟩ := eqBin_one (σ := σ) h.2
    exact ⟨z, hz.and h.1 fun σ K => by simp only [hbin]⟩
  · obtain ⟨z, hz⟩ := eqBin_one (σ := σ) h.2
    exact ⟨z, hz.and h.1 fun σ K => by simp only [hbin]⟩
  · obtain ⟨z, hz⟩ := eqBin_one (σ := σ) h.2
    exact ⟨z, hz.and h.1 fun σ K => by simp only [hbin]⟩
  · rw [hT] at h; cases h.1
  · rename_i xs ys
    split at h
    · rename_i r hr
      obtain ⟨z, hz⟩ := eqBin_one (σ := σ) h
      exact ⟨z, hz.same fun σ K => by simp only [hbin, hr]⟩
    · exact h.elim
  · exact h.elim
theorem hun_one {op : UnOp} {x : D} {K0 : D → Prop} (h : hun op x K0) : ∃ z, One (fun _ K => hun op x K) σ z := by
  unfold hun at h
  split at h
  · exact ⟨_, One.at trivial fun _ K _ => by simp only [hun, true_and]; exact Iff.rfl⟩
  · exact ⟨_, One.at trivial fun _ K _ => by simp only [hun, true_and]; exact Iff.rfl⟩
  · exact h.elim
theorem bytesD_inj {a b : ByteArray} (h : bytesD a = bytesD b) : a = b := by
  unfold bytesD at h
  have : a.data.toList = b.data.toList := by
    refine List.map_inj_right ?_ |>.1 h
    intro x y hxy
    simp only [List.cons.injEq, D.lit.injEq, Value.int.injEq, true_and, and_true] at hxy
    exact UInt8.toNat_inj.1 (by omega)
  cases a; cases b
  simp only [ByteArray.mk.injEq]
  exact Array.ext' this
theorem hconv_one {S T : TI} {x : D} {K0 : D → Prop} (h : hconv P S T x K0) : ∃ z, One (fun _ K => hconv P S T x K) σ z := by
  unfold hconv at h
  split at h
  · split at h
    · rename_i hk
      exact ⟨_, One.at trivial fun _ K _ => by simp only [hconv, hk, true_and]; exact Iff.rfl⟩
    · exact h.elim
  · rename_i s
    obtain ⟨h1, h2, h3, h4⟩ := h
    by_cases hs : T.kk.isStr = true
    · have hb : T.kk.bytes P = false := by
        have : T.kk = .str := by
          revert hs; cases T.kk <;> simp [KK.isStr]
        rw [this]; rfl
      exact ⟨.str s, One.at (A := S.kk.isStr = true) h1 fun _ K _ => by simp [hconv, hs, hb, h1]⟩
    · have hb : T.kk.bytes P = true := by rcases h4 with h4 | h4 <;> simp_all
      simp only [Bool.not_eq_true] at hs
      exact ⟨.list (bytesD s) .ro, One.at (A := S.kk.isStr = true) h1 fun _ K _ => by simp [hconv, hs, hb, h1]⟩
  · rename_i es _
    obtain ⟨h1, s, rfl, h3⟩ := h
    refine ⟨.str s, fun _ K _ hk => ⟨h1, s, rfl, hk⟩, fun K hk => ?_⟩
    obtain ⟨-, s', e, hk⟩ := hk
    rw [bytesD_inj e]; exact hk
  · exact h.elim
theorem hiface_one {T : TI} {t : TypeId} {x : D} {K0 : D → Prop} (h : hiface T t x K0) : ∃ z, One (fun _ K => hiface T t x K) σ z := by
  unfold hiface at h
  split at h
  · exact ⟨_, One.at h.1 fun _ K _ => by simp only [hiface]; exact Iff.rfl⟩
  · exact h.elim
theorem hbuild_one {T : TI} {l : List (Nat × D)} {K0 : D → Prop} (h : hbuild T l K0) : ∃ z, One (fun _ K => hbuild T l K) σ z := by
  unfold hbuild at h
  split at h
  · rename_i z e1 e2
    split at h
    · rename_i ds e
      exact ⟨.agg ds, One.at trivial fun _ K _ => by simp only [hbuild, e1, e2, e, true_and]⟩
    · exact h.elim
  · exact h.elim
theorem hfield_one {T : TI} {x : D} {f : Nat} {K0 : D → Prop} (h : hfield T x f K0) : ∃ z, One (fun _ K => hfield T x f K) σ z := by
  unfold hfield at h
  split at h
  · rename_i e
    exact ⟨_, One.at h.1 fun _ K _ => by simp only [hfield, e]; exact Iff.rfl⟩
  · exact h.elim
theorem hfieldAddr_one {T : TI} {x : D} {f : Nat} {K0 : D → Prop} (h : hfieldAddr T x f K0) : ∃ z, One (fun _ K => hfieldAddr T x f K) σ z := by
  unfold hfieldAddr at h
  split at h
  · rename_i e
    obtain ⟨h0, h⟩ := h
    split at h
    · exact ⟨_, One.at h0 fun _ K _ => by simp only [hfieldAddr, e]; exact Iff.rfl⟩
    · exact ⟨_, One.at (A := _ ∧ _) ⟨h0, h.1⟩ fun _ K _ => by simp only [hfieldAddr, e, and_assoc]; exact Iff.rfl⟩
    · exact h.elim
  · exact h.elim
theorem hindexAddr_one {n : Nat} {x i : D} {K0 : D → Prop} (h : hindexAddr n x i K0) : ∃ z, One (fun _ K => hindexAddr n x i K) σ z := by
  unfold hindexAddr at h
  split at h
  · exact ⟨_, One.at h.1 fun _ K _ => by simp only [hindexAddr]; exact Iff.rfl⟩
  · exact ⟨_, One.at h.1 fun _ K _ => by simp only [hindexAddr]; exact Iff.rfl⟩
  · exact h.elim
theorem hindex_one {x i : D} {K0 : D → Prop} (h : hindex x i K0) : ∃ z, One (fun _ K => hindex x i K) σ z := by
  unfold hindex at h
  split at h
  · exact ⟨_, One.at h.1 fun _ K _ => by simp only [hindex]; exact Iff.rfl⟩
  · exact h.elim
theorem hslice_one {n : Nat} {x : D} {lo hi : Option D} {K0 : D → Prop} (h : hslice n x lo hi K0) : ∃ z, One (fun _ K => hslice n x lo hi K) σ z := by
  unfold hslice at h
  split at h <;> first
    | (split at h
       · rename_i e1 e2; exact ⟨_, One.at h.1 fun _ K _ => by simp only [hslice, e1, e2]; exact Iff.rfl⟩
       · exact h.elim)
    | exact h.elim
theorem hslice3_mono {n : Nat} {x : D} {lo : Option D} {hi mx : D} {K K' : D → Prop} (hk : ∀ d, K d → K' d) (h : hslice3 n x lo hi mx K) : hslice3 n x lo hi mx K' := by
  unfold hslice3 at h ⊢
  split at h
  · split at h
    · exact ⟨h.1, hk _ h.2⟩
    · exact h.elim
  · exact h.elim
theorem entriesOf_mono {x : D} {σ σ' : Store} (hs : SLe σ σ') {es : List (ByteArray × Value)} (h : entriesOf x σ = some es) : entriesOf x σ' = some es := by
  unfold entriesOf at h ⊢
  split at h
  · rename_i r
    split at h
    · rename_i es' e
      simp only [hs _ _ e]; exact h
    · cases h
  · exact h
  · cases h
theorem hlookup_one {T E : TI} {x i : D} {ok : Bool} {K0 : D → Prop} (h : hlookup P T E x i ok σ K0) : ∃ z, One (fun σ K => hlookup P T E x i ok σ K) σ z := by
  unfold hlookup at h
  split at h
  · rename_i es s z e1 e2
    exact ⟨_, One.at h.1 fun σ' K hs => by simp only [hlookup, entriesOf_mono hs e1, e2]; exact Iff.rfl⟩
  · exact h.elim
theorem hextract_one {x : D} {i : Nat} {K0 : D → Prop} (h : hextract x i K0) : ∃ z, One (fun _ K => hextract x i K) σ z := by
  unfold hextract at h
  split at h
  · split at h
    · rename_i y e
      exact ⟨y, One.at trivial fun _ K _ => by simp only [hextract, e, true_and]⟩
    · exact h.elim
  · exact h.elim
theorem hnil_one {x : D} {K0 : D → Prop} (h : hnil x K0) : ∃ z, One (fun _ K => hnil x K) σ z := by
  unfold hnil at h
  split at h <;> first
    | exact ⟨_, One.at trivial fun _ K _ => by simp only [hnil, true_and]; exact Iff.rfl⟩
    | exact h.elim
theorem hlen_one {T : TI} {x : D} {K0 : D → Prop} (h : hlen T x σ K0) : ∃ z, One (fun σ K => hlen T x σ K) σ z := by
  unfold hlen at h
  split at h
  · exact ⟨_, One.at h.1 fun _ K _ => by simp only [hlen]; exact Iff.rfl⟩
  · exact ⟨_, One.at h.1 fun _ K _ => by simp only [hlen]; exact Iff.rfl⟩
  · exact ⟨_, One.at h.1 fun _ K _ => by simp only [hlen]; exact Iff.rfl⟩
  · split at h
    · rename_i es e
      exact ⟨_, One.at h.1 fun σ' K hs => by simp only [hlen, entriesOf_mono hs e]; exact Iff.rfl⟩
    · exact h.elim
  · exact h.elim
theorem hminmax_one {mx : Bool} {l : List D} {K0 : D → Prop} (h : hminmax mx l K0) : ∃ z, One (fun _ K => hminmax mx l K) σ z := by
  unfold hminmax at h
  split at h
  · exact ⟨_, One.at trivial fun _ K _ => by simp only [hminmax, true_and]; exact Iff.rfl⟩
  · exact h.elim

/-! ### Operations -/
def notSlice (P : Program) (t : TypeId) : Bool := match tx P t with
  | some X => !X.T.kk.isSlice
  | none => false
/-- Its value hangs on its operands and on what stands written, and it leaves no trace. -/
def calm (P : Program) (lm : Bool) (o : Op) : Bool := match o with
  | .move _ | .assign _ | .pick _ _ _ | .build _ _ | .load _ _ | .nilCheck _ | .unOp _ _ _ | .convert _ _ _ | .makeInterface _ _ | .makeFunc _ _ _ | .fieldAddr _ _ _ | .field _ _ _ | .indexAddr _ _ _ | .index _ _ _ | .lookup _ _ _ _ | .extract _ _ => true
  | .slice _ _ _ _ none => true
  | .buildSlice _ _ _ => !lm
  | .binOp _ t _ _ _ => notSlice P t
  | .call c => match c.callee with
    | .builtin .len | .builtin .min | .builtin .max => true
    | _ => false
  | _ => false

theorem wtx_one {t : TypeId} {f : TX → Store → (D → Prop) → Prop} {K0 : D → Prop} (h : wtx P t (fun X => f X σ K0)) (hf : ∀ X, tx P t = some X → f X σ K0 → ∃ z, One (f X) σ z) : ∃ z, One (fun σ K => wtx P t (fun X => f X σ K)) σ z := by
  obtain ⟨X, hX, h⟩ := wtx_inv h
  obtain ⟨z, hz⟩ := hf X hX h
  exact ⟨z, hz.same fun σ K => by unfold wtx; rw [hX]⟩
theorem wel_one {T : TI} {f : TX → Store → (D → Prop) → Prop} {K0 : D → Prop} (h : wel P T (fun X => f X σ K0)) (hf : ∀ X, f X σ K0 → ∃ z, One (f X) σ z) : ∃ z, One (fun σ K => wel P T (fun X => f X σ K)) σ z := by
  obtain ⟨e, X, hk, hX, h⟩ := wel_inv h
  obtain ⟨z, hz⟩ := hf X h
  exact ⟨z, hz.same fun σ K => by unfold wel; rw [hk]; simp only [wtx, hX]⟩
theorem and_one {A : Prop} {f : Store → (D → Prop) → Prop} {K0 : D → Prop} (h : A ∧ f σ K0) (hf : f σ K0 → ∃ z, One f σ z) : ∃ z, One (fun σ K => A ∧ f σ K) σ z := by
  obtain ⟨z, hz⟩ := hf h.2
  exact ⟨z, hz.and h.1 fun σ K => Iff.rfl⟩
theorem triv_one (d : D) : ∃ z, One (fun _ K => K d) σ z := ⟨d, One.at trivial fun _ K _ => by simp⟩
theorem hbuildSlice_one {E : TI} {n : Nat} {l : List (Nat × D)} {K0 : D → Prop} (h : hbuildSlice false E n l σ (fun d _ => K0 d)) : ∃ z, One (fun σ K => hbuildSlice false E n l σ (fun d _ => K d)) σ z := by
  unfold hbuildSlice at h
  split at h
  · rename_i z e
    obtain ⟨h1, h2, h⟩ := h
    split at h
    · rename_i ds e2
      exact ⟨_, One.at (A := _ ∧ _) ⟨h1, h2⟩ fun _ K _ => by simp only [hbuildSlice, e, e2, and_assoc]; exact Iff.rfl⟩
    · exact h.elim
  · exact h.elim

theorem hop_one {o : Op} {e : Env} {K0 : D → Prop} (hc : calm P lm o = true) (h : hop P lm o e σ (fun d _ => K0 d)) : ∃ z, One (fun σ K => hop P lm o e σ (fun d _ => K d)) σ z := by
  cases o with
  | move x => exact triv_one _
  | assign x => exact triv_one _
  | pick c a b => exact hcond_one (s := σ) h
  | build t parts => exact wtx_one (f := fun X σ K => (X.zf = true ∧ X.fk = true) ∧ hbuild X.T (parts.toList.map fun (p : Nat × Operand) => (p.1, ev e p.2)) K) h fun X _ h => and_one h fun h => hbuild_one h
  | buildSlice t n parts =>
    have : lm = false := by simpa [calm] using hc
    subst this
    exact wtx_one (f := fun X σ K => wel P X.T fun E => E.zf = true ∧ hbuildSlice false E.T n (parts.toList.map fun (p : Nat × Operand) => (p.1, ev e p.2)) σ (fun d _ => K d)) h fun X _ h => wel_one (f := fun E σ K => E.zf = true ∧ hbuildSlice false E.T n (parts.toList.map fun (p : Nat × Operand) => (p.1, ev e p.2)) σ (fun d _ => K d)) h fun E h => and_one h fun h => hbuildSlice_one h
  | load t a => exact wtx_one (f := fun X σ K => hload X.T (ev e a) σ K) h fun X _ h => hload_one h
  | nilCheck x => exact hnil_one h
  | unOp op t x => exact hun_one h
  | binOp op t x y u =>
    refine wtx_one (f := fun X σ K => hbin P op t X.T (isC x || isC y) (ev e x) (ev e y) K) h fun X hX h => hbin_one ?_ h
    simpa [calm, notSlice, hX] using hc
  | convert s t x => exact wtx_one (f := fun S σ K => wtx P t fun X => (SizedAs (ev e x) 1 ∧ ∀ y, ev e x = .str y → y.size ≤ 9223372036854775807) ∧ hconv P S.T X.T (ev e x) K) h fun S _ h => wtx_one (f := fun X σ K => (SizedAs (ev e x) 1 ∧ ∀ y, ev e x = .str y → y.size ≤ 9223372036854775807) ∧ hconv P S.T X.T (ev e x) K) h fun X _ h => and_one h fun h => hconv_one h
  | makeInterface t x => exact wtx_one (f := fun X σ K => hiface X.T t (ev e x) K) h fun X _ h => hiface_one h
  | makeFunc fn a b =>
    simp only [hop] at h ⊢
    split at h
    · exact triv_one _
    · exact h.elim
  | fieldAddr t x f => exact wtx_one (f := fun X σ K => hfieldAddr X.T (ev e x) f K) h fun X _ h => hfieldAddr_one h
  | field t x f => exact wtx_one (f := fun X σ K => hfield X.T (ev e x) f K) h fun X _ h => hfield_one h
  | indexAddr t x i => exact wtx_one (f := fun X σ K => wel P X.T fun E => SizedAs (ev e x) E.T.size ∧ hindexAddr E.T.size (ev e x) (ev e i) K) h fun X _ h => wel_one (f := fun E σ K => SizedAs (ev e x) E.T.size ∧ hindexAddr E.T.size (ev e x) (ev e i) K) h fun E h => and_one h fun h => hindexAddr_one h
  | index t x i => exact wtx_one (f := fun X σ K => X.T.kk.isStr = true ∧ hindex (ev e x) (ev e i) K) h fun X _ h => and_one h fun h => hindex_one h
  | lookup t x i ok => exact wtx_one (f := fun X σ K => wtx P (mapElem X.T.kk) fun E => E.zo = true ∧ hlookup P X.T E.T (ev e x) (ev e i) ok σ K) h fun X _ h => wtx_one (f := fun E σ K => E.zo = true ∧ hlookup P X.T E.T (ev e x) (ev e i) ok σ K) h fun E _ h => and_one h fun h => hlookup_one h
  | extract x i => exact hextract_one h
  | slice t x lo hi mx =>
    cases mx with
    | some _ => simp [calm] at hc
    | none =>
      simp only [hop] at h ⊢
      refine wtx_one (f := fun X σ K => match X.T.kk with
        | .str => (match ev e x with | .lit (.string _) => True | _ => False) ∧ hslice 0 (ev e x) (lo.map (ev e)) (hi.map (ev e)) K
        | .slice el => wtx P el fun E => (SizedAs (ev e x) E.T.size ∧ capOk (ev e x) = true) ∧ hslice E.T.size (ev e x) (lo.map (ev e)) (hi.map (ev e)) K
        | _ => False) h fun X _ h => ?_
      cases hk : X.T.kk with
      | str =>
        simp only [hk] at h ⊢
        obtain ⟨z, hz⟩ := hslice_one (σ := σ) h.2
        exact ⟨z, hz.and h.1 fun σ K => Iff.rfl⟩
      | slice el =>
        simp only [hk] at h ⊢
        exact wtx_one (f := fun E σ K => (SizedAs (ev e x) E.T.size ∧ capOk (ev e x) = true) ∧ hslice E.T.size (ev e x) (lo.map (ev e)) (hi.map (ev e)) K) h fun E _ h => and_one h fun h => hslice_one h
      | _ => simp only [hk] at h
  | call c =>
    obtain ⟨callee, args, ts⟩ := c
    cases callee with
    | builtin b =>
      cases b with
      | len =>
        simp only [hop, hbuiltin] at h ⊢
        split at h <;> try exact h.elim
        all_goals simp_all
        rename_i t d h1 h2
        exact wtx_one (f := fun X σ K => hlen X.T d σ K) h fun X _ h => hlen_one h
      | min =>
        simp only [hop, hbuiltin] at h ⊢
        exact hminmax_one h
      | max =>
        simp only [hop, hbuiltin] at h ⊢
        exact hminmax_one h
      | _ => simp [calm] at hc
    | _ => simp [calm] at hc
  | _ => simp [calm] at hc

theorem calm_at {o : Op} {e : Env} (hc : calm P lm o = true) (K : D → Store → Prop) : hop P lm o e σ K ↔ hop P lm o e σ (fun d _ => K d σ) := by
  cases o with
  | buildSlice t n parts =>
    have : lm = false := by simpa [calm] using hc
    subst this
    simp only [hop]
    unfold wtx wel hbuildSlice
    rfl
  | makeFunc fn a b => simp only [hop]
  | slice t x lo hi mx =>
    cases mx with
    | some _ => simp [calm] at hc
    | none => exact Iff.rfl
  | call c =>
    obtain ⟨callee, args, ts⟩ := c
    cases callee with
    | builtin b =>
      cases b <;> first
        | (simp [calm] at hc; done)
        | (simp only [hop]; unfold hbuiltin; split <;> first | exact Iff.rfl | simp_all)
    | _ => simp [calm] at hc
  | move | assign | pick | build | load | nilCheck | unOp | binOp | convert | makeInterface | fieldAddr | field | indexAddr | index | lookup | extract => exact Iff.rfl
  | _ => simp [calm] at hc

theorem wtx_mono {t : TypeId} {f g : TX → Prop} (h : wtx P t f) (hf : ∀ X, f X → g X) : wtx P t g := by
  obtain ⟨X, hX, h⟩ := wtx_inv h
  unfold wtx; rw [hX]; exact hf X h
theorem wel_mono {T : TI} {f g : TX → Prop} (h : wel P T f) (hf : ∀ X, f X → g X) : wel P T g := by
  obtain ⟨e, X, hk, hX, h⟩ := wel_inv h
  unfold wel; rw [hk]; simp only [wtx, hX]; exact hf X h
theorem hbuildSlice_mono {E : TI} {n : Nat} {l : List (Nat × D)} {K K' : D → Store → Prop} (hk : ∀ d s, K d s → K' d s) (h : hbuildSlice lm E n l σ K) : hbuildSlice lm E n l σ K' := by
  unfold hbuildSlice at h ⊢
  split at h
  · obtain ⟨h1, h2, h⟩ := h
    refine ⟨h1, h2, ?_⟩
    split at h
    · cases lm with
      | true => exact fun b hb => hk _ _ (h b hb)
      | false => exact hk _ _ h
    · exact h.elim
  · exact h.elim
theorem hstore_mono {T : TI} {a x : D} {K K' : Store → Prop} (hk : ∀ s, K s → K' s) (h : hstore T a x σ K) : hstore T a x σ K' := by
  unfold hstore at h ⊢
  repeat' split at h
  all_goals first
    | exact h.elim
    | exact ⟨h.1, hk _ h.2⟩
theorem hmake_mono {T E : TI} {l c : D} {K K' : D → Store → Prop} (hk : ∀ d s, K d s → K' d s) (h : hmake T E l c σ K) : hmake T E l c σ K' := by
  unfold hmake at h ⊢
  split at h
  · exact ⟨h.1, fun b hb => hk _ _ (h.2 b hb)⟩
  · exact h.elim
theorem hmapUpdate_mono {T : TI} {x i y : D} {K K' : Store → Prop} (hk : ∀ s, K s → K' s) (h : hmapUpdate P T x i y σ K) : hmapUpdate P T x i y σ K' := by
  unfold hmapUpdate at h ⊢
  repeat' split at h
  all_goals first
    | exact h.elim
    | exact ⟨h.1, hk _ h.2⟩
theorem hclear_mono {E : TI} {d : D} {K K' : D → Store → Prop} (hk : ∀ d s, K d s → K' d s) (h : hclear E d σ K) : hclear E d σ K' := by
  unfold hclear at h ⊢
  split at h
  · split at h
    · rename_i e; rw [if_pos e]; exact hk _ _ h
    · rename_i e; rw [if_neg e]
      split at h
      · exact ⟨h.1, hk _ _ h.2⟩
      · exact h.elim
  · exact hk _ _ h
  · exact h.elim
theorem hcopy_mono {E : TI} {d x : D} {K K' : D → Store → Prop} (hk : ∀ d s, K d s → K' d s) (h : hcopy E d x σ K) : hcopy E d x σ K' := by
  unfold hcopy at h ⊢
  split at h
  · split at h
    · exact ⟨h.1, hk _ _ h.2⟩
    · exact h.elim
  · exact hk _ _ h
  · exact h.elim
theorem happend_mono {E : TI} {a x : D} {K K' : D → Store → Prop} (hk : ∀ d s, K d s → K' d s) (h : happend lm E a x σ K) : happend lm E a x σ K' := by
  unfold happend at h ⊢
  split at h
  · exact h.elim
  · obtain ⟨h0, h⟩ := h
    refine ⟨h0, ?_⟩
    split at h
    · obtain ⟨h1, h⟩ := h
      refine ⟨h1, ?_⟩
      cases lm with
      | true => exact ⟨h.1, fun e => hk _ _ (h.2.1 e), fun e z hz b c hb h1 h2 => hk _ _ (h.2.2 e z hz b c hb h1 h2)⟩
      | false =>
        simp only [Bool.false_eq_true, if_false] at h ⊢
        split at h
        · exact ⟨fun e => hk _ _ (h.1 e), fun e b c hb h1 => hk _ _ (h.2 e b c hb h1)⟩
        · exact ⟨fun e => hk _ _ (h.1 e), fun e b c hb h1 => hk _ _ (h.2 e b c hb h1)⟩
        · exact ⟨h.1, fun e => hk _ _ (h.2.1 e), fun e b c hb h1 => hk _ _ (h.2.2 e b c hb h1)⟩
        · exact h.elim
    · split at h
      · exact ⟨h.1, fun e => hk _ _ (h.2.1 e), fun e z hz b c hb h1 h2 => hk _ _ (h.2.2 e z hz b c hb h1 h2)⟩
      · exact h.elim
    · exact h.elim
theorem HExt.mono {f : FuncId} {ds : List D} {Q Q' : D → Store → Prop} (h : HExt P f ds σ Q) (hq : ∀ d σ', Q d σ' → Q' d σ') : HExt P f ds σ Q' := fun w0 M w vs a b c =>
  let ⟨v, w', M', d, σ', h1, h2, h3, h4, h5⟩ := h w0 M w vs a b c
  ⟨v, w', M', d, σ', h1, h2, h3, h4, hq d σ' h5⟩

theorem hop_mono {o : Op} {e : Env} {K K' : D → Store → Prop} (hk : ∀ d s, K d s → K' d s) (h : hop P lm o e σ K) : hop P lm o e σ K' := by
  by_cases hc : calm P lm o = true
  · rw [calm_at hc] at h ⊢
    obtain ⟨z, h1, h2⟩ := hop_one (K0 := fun d => K d σ) hc h
    exact h1 σ _ (SLe.refl σ) (hk _ _ (h2 _ h))
  · cases o with
    | alloc t =>
      refine wtx_mono h fun X h => ⟨h.1, ?_⟩
      have h := h.2
      split at h
      · exact fun b hb => hk _ _ (h b hb)
      · exact h.elim
    | box t v => exact ⟨h.1, fun b hb => hk _ _ (h.2 b hb)⟩
    | buildSlice t n parts => exact wtx_mono h fun X h => wel_mono h fun E h => ⟨h.1, hbuildSlice_mono hk h.2⟩
    | store t a x => exact wtx_mono h fun X h => hstore_mono (hk _) h
    | binOp op t x y u =>
      refine wtx_mono h fun X h => ?_
      unfold hbin at h ⊢
      have eb : ∀ op r, eqBin op r (K · σ) → eqBin op r (K' · σ) := fun op r h => by cases op <;> first | exact hk _ _ h | exact h.elim
      repeat' split at h
      all_goals first
        | exact h.elim
        | (exact ⟨h.1, eb _ _ h.2⟩)
        | (exact eb _ _ h)
        | (exact ⟨h.1, fun r h1 h2 => eb _ _ (h.2 r h1 h2)⟩)
        | (rename_i hs; rw [if_pos hs]; cases op <;> first | exact h.elim | exact ⟨h.1, hk _ _ h.2⟩)
        | (rename_i hs; rw [if_neg hs]; refine ⟨h.1, ?_⟩; have h := h.2; cases op <;> first | exact h.elim | exact ⟨h.1, hk _ _ h.2⟩ | exact hk _ _ h)
        | (cases op <;> first | exact h.elim | exact ⟨h.1, hk _ _ h.2⟩ | exact hk _ _ h)
    | makeMap t n =>
      cases n with
      | none => exact fun b hb => hk _ _ (h b hb)
      | some _ => exact h.elim
    | makeSlice t l c => exact wtx_mono h fun X h => wel_mono h fun E h => ⟨h.1, hmake_mono hk h.2⟩
    | mapUpdate t m k v => exact wtx_mono h fun X h => hmapUpdate_mono (hk _) h
    | call c =>
      obtain ⟨callee, args, ts⟩ := c
      cases callee with
      | builtin b =>
        simp only [hop] at h ⊢
        unfold hbuiltin at h ⊢
        split at h
        · simp [calm] at hc
        · exact wtx_mono h fun X h => wel_mono h fun E h => ⟨h.1, happend_mono hk h.2⟩
        · simp [calm] at hc
        · simp [calm] at hc
        · exact wtx_mono h fun X h => wel_mono h fun E h => ⟨h.1, hclear_mono hk h.2⟩
        · exact wtx_mono h fun X h => wel_mono h fun E h => ⟨h.1, hcopy_mono hk h.2⟩
        · exact h.elim
      | value f =>
        simp only [hop] at h ⊢
        split at h
        · split at h
          · rename_i e1; rw [if_pos e1]; exact HCalls.mono h hk
          · rename_i e1; rw [if_neg e1]; exact HExt.mono h hk
        · exact h.elim
      | _ => exact h.elim
    | slice t x lo hi mx =>
      cases mx with
      | none => simp [calm] at hc
      | some mx =>
        cases hi with
        | none => exact h.elim
        | some hi =>
          simp only [hop] at h ⊢
          refine wtx_mono h fun X h => ?_
          cases hkk : X.T.kk with
          | slice el =>
            simp only [hkk] at h ⊢
            exact wtx_mono h fun E h => hslice3_mono (fun d => hk d _) h
          | _ => simp only [hkk] at h
    | _ => first | exact h.elim | (simp [calm] at hc)

theorem ev_same {e e' : Env} {x : Operand} (h : ∀ t, x = .tmp t → e t = e' t) : ev e x = ev e' x := by
  cases x with
  | tmp t => exact h t rfl
  | _ => rfl
def tmpsOf (o : Op) : List Nat := o.operands.toList.filterMap fun x => match x with
  | .tmp t => some t
  | _ => none
theorem mem_tmpsOf {o : Op} {t : Nat} (h : Operand.tmp t ∈ o.operands) : t ∈ tmpsOf o := by
  simp only [tmpsOf, List.mem_filterMap]
  exact ⟨.tmp t, by simpa using h, rfl⟩
theorem hop_frame {o : Op} {e e' : Env} {K : D → Store → Prop} (h : ∀ t, t ∈ tmpsOf o → e t = e' t) : hop P lm o e σ K = hop P lm o e' σ K := by
  have hx : ∀ x, x ∈ o.operands → ev e x = ev e' x := fun x hx => ev_same fun t ht => h t (mem_tmpsOf (by subst ht; exact hx))
  have hm : ∀ l : List Operand, (∀ x ∈ l, x ∈ o.operands) → l.map (ev e) = l.map (ev e') := fun l hl => List.map_congr_left fun x hxl => hx x (hl x hxl)
  have hp : ∀ l : List (Nat × Operand), (∀ x ∈ l, x.2 ∈ o.operands) → l.map (fun p => (p.1, ev e p.2)) = l.map (fun p => (p.1, ev e' p.2)) := fun l hl => List.map_congr_left fun x hxl => by rw [hx x.2 (hl x hxl)]
  have ho : ∀ x : Option Operand, (∀ y, x = some y → y ∈ o.operands) → x.map (ev e) = x.map (ev e') := fun x hl => by
    cases x with
    | none => rfl
    | some y => simp [hx y (hl y rfl)]
  cases o with
  | build t parts =>
    simp only [hop]
    rw [hp parts.toList (fun x hx => by simp only [Op.operands]; exact List.mem_toArray.2 (List.mem_map.2 ⟨x, by simpa using hx, rfl⟩))]
  | buildSlice t n parts =>
    simp only [hop]
    rw [hp parts.toList (fun x hx => by simp only [Op.operands]; exact List.mem_toArray.2 (List.mem_map.2 ⟨x, by simpa using hx, rfl⟩))]
  | makeFunc fn a b =>
    simp only [hop]
    rw [hm a.toList (fun x hx => by simp only [Op.operands, Array.mem_append]; exact .inl (by simpa using hx)), hm b.toList (fun x hx => by simp only [Op.operands, Array.mem_append]; exact .inr (by simpa using hx))]
  | slice t x lo hi mx =>
    cases mx with
    | some mx =>
      cases hi with
      | none => rfl
      | some hi =>
        simp only [hop]
        rw [hx x (by simp [Op.operands]), ho lo (fun y hy => by subst hy; simp [Op.operands]), hx hi (by simp [Op.operands]), hx mx (by simp [Op.operands])]
    | none =>
      simp only [hop]
      rw [hx x (by simp [Op.operands]), ho lo (fun y hy => by subst hy; simp [Op.operands]), ho hi (fun y hy => by subst hy; simp [Op.operands])]
  | call c =>
    obtain ⟨callee, args, ts⟩ := c
    cases callee with
    | builtin b =>
      simp only [hop]
      rw [hm args.toList (fun x hx => by simp [Op.operands, Call.operands]; try simpa using hx)]
    | value f =>
      simp only [hop]
      rw [hx f (by simp [Op.operands, Call.operands]), hm args.toList (fun x hx => by simp [Op.operands, Call.operands]; try (right; simpa using hx))]
    | _ => rfl
  | makeMap t n => cases n <;> rfl
  | _ => first
    | rfl
    | (simp only [hop]; (try simp only [hx _ (show _ ∈ Op.operands _ by simp [Op.operands])]); done)
    | (simp [Op.operands] at hx; simp only [hop, hx]; done)
    | (simp [Op.operands] at hx; simp only [hop, hx.1, hx.2]; done)
    | (simp [Op.operands] at hx; simp only [hop, hx.1, hx.2.1, hx.2.2]; done)
end Go.HL
/- HL, part L: a function's code, told plainly. -/
set_option linter.unusedVariables false
set_option linter.unusedSimpArgs false
namespace Go.HL
open Go.RowKit
variable {P : Program} {w0 w : World} {M : Mem} {σ : Store}

def updo (e : Env) (t : Option Tmp) (d : D) : Env := match t with
  | some t => upd e t d
  | none => e
/-- Is a guarded operation carried out? -/
def guardD (all : List Oper) (g : Option (Nat × Bool)) (e : Env) (run skip : Prop) : Prop :=
  match g with
  | none => run
  | some (j, want) => match (all[j]?).bind (·.dst) with
    | none => skip
    | some t => match e t with
      | .lit (.bool b) => if want then (b = true → run) ∧ (b = false → skip) else (b = false → run) ∧ (b = true → skip)
      | .lit (.tuple _) => skip
      | _ => False
def hops (P : Program) (lm : Bool) (all : List Oper) : List Oper → Env → Store → (Env → Store → Prop) → Prop
  | [], e, s, N => N e s
  | o :: r, e, s, N => guardD all o.guard e (hop P lm o.op e s fun d s' => hops P lm all r (updo e o.dst d) s' N) (hops P lm all r (updo e o.dst (.lit undef)) s N)

structure Kont where
  n : Env → Store → Prop
  r : Env → Store → Prop
  x : Nat → Env → Store → Prop

def hloop (body : Kont → Env → Store → Prop) (K : Kont) (e : Env) (s : Store) : Prop :=
  ∃ I : Nat → Env → Store → Prop, (∃ n s', SLe s' s ∧ I n e s') ∧ ∀ n e s, I n e s → body { K with n := fun e' s' => ∃ m s'', m < n ∧ SLe s'' s' ∧ I m e' s'' } e s

/-- A region that draws its order: whatever comes up next. -/
def hAny (P : Program) (lm : Bool) (ops : Array Oper) : Nat → Array Bool → Env → Store → (Env → Store → Prop) → Prop
  | 0, listed, e, s, N => Region.ready .any ops listed = [] ∧ N e s
  | fuel + 1, listed, e, s, N => (Region.ready .any ops listed = [] → N e s) ∧ ∀ i ∈ Region.ready .any ops listed, match ops[i]? with
    | none => hAny P lm ops fuel (listed.setIfInBounds i true) e s N
    | some o => guardD ops.toList o.guard e (hop P lm o.op e s fun d s' => hAny P lm ops fuel (listed.setIfInBounds i true) (updo e o.dst d) s' N) (hAny P lm ops fuel (listed.setIfInBounds i true) (updo e o.dst (.lit undef)) s N)
/-! A region that draws its order, told in the order of its text: what reads is asked at the start. -/
def gdst (all : List Oper) (g : Option (Nat × Bool)) : List Nat := match g with
  | none => []
  | some (j, _) => match (all[j]?).bind (·.dst) with
    | some t => [t]
    | none => []
def readsOf (all : List Oper) (o : Oper) : List Nat := tmpsOf o.op ++ gdst all o.guard
/-- Neither asks for what the other leaves. -/
def apart (P : Program) (lm : Bool) (all : List Oper) (a b : Oper) : Bool :=
  (match a.dst, b.dst with
    | some x, some y => x != y
    | _, _ => true) && (match a.dst with | some x => !(readsOf all b).contains x | none => true) && (match b.dst with | some y => !(readsOf all a).contains y | none => true) && (calm P lm a.op || calm P lm b.op)
/-- What stands ahead of an operation in every order, from what stands ahead of the earlier ones. -/
def ancOf (acc : List Nat) (l : List Edge) : Nat := l.foldr (fun e m => (1 <<< e.on ||| acc.getD e.on 0) ||| m) 0
def ancs : List Oper → List Nat → List Nat
  | [], acc => acc
  | o :: r, acc => ancs r (acc ++ [ancOf acc (o.after.toList.filter (Region.binds .any))])
def pairsOk (P : Program) (lm : Bool) (all : List Oper) (A : List Nat) : Bool :=
  (List.range all.length).all fun k => (List.range k).all fun j => (A.getD k 0).testBit j || (match all[j]?, all[k]? with | some a, some b => apart P lm all a b | _, _ => true)
def drawOk (P : Program) (lm : Bool) (all : List Oper) : Bool :=
  (List.range all.length).all (fun i => match all[i]? with | some o => o.after.toList.all fun e => !Region.binds .any e || decide (e.on < i) | none => true) && pairsOk P lm all (ancs all [])
def stepD (P : Program) (lm : Bool) (σ0 : Store) (o : Op) (e : Env) (s : Store) (K : D → Store → Prop) : Prop :=
  if calm P lm o then hop P lm o e σ0 (fun d _ => K d s) else hop P lm o e s (fun d s' => SLe σ0 s' ∧ K d s')
def hseq (P : Program) (lm : Bool) (σ0 : Store) (all : List Oper) : List Oper → Env → Store → (Env → Store → Prop) → Prop
  | [], e, s, N => N e s
  | o :: r, e, s, N => guardD all o.guard e (stepD P lm σ0 o.op e s fun d s' => hseq P lm σ0 all r (updo e o.dst d) s' N) (hseq P lm σ0 all r (updo e o.dst (.lit undef)) s N)
/-- All ahead of this place stands ahead of all from it on. -/
def cutOk (all : List Oper) (A : List Nat) (c : Nat) : Bool := decide (c ≤ all.length) && (List.range all.length).all fun k => decide (k < c) || (List.range c).all fun i => (A.getD k 0).testBit i
def hdraw (P : Program) (lm : Bool) (ops : Array Oper) (e : Env) (s : Store) (N : Env → Store → Prop) : Prop :=
  hAny P lm ops ops.size (Array.replicate ops.size false) e s N ∨ (drawOk P lm ops.toList = true ∧ ∃ c σ0, cutOk ops.toList (ancs ops.toList []) c = true ∧ SLe σ0 s ∧ hseq P lm σ0 ops.toList (ops.toList.take c) e s fun e s => ∃ σ1, SLe σ1 s ∧ hseq P lm σ1 ops.toList (ops.toList.drop c) e s N)

def hwp (P : Program) (lm : Bool) : Code → Kont → Env → Store → Prop
  | .skip, K, e, s => K.n e s
  | .region _ ops draw, K, e, s => if draw then hdraw P lm ops e s K.n else hops P lm ops.toList ops.toList e s K.n
  | .seq a b, K, e, s => hwp P lm a { K with n := fun e s => hwp P lm b K e s } e s
  | .cond c a b, K, e, s => hcond (ev e c) (hwp P lm a K e s) (hwp P lm b K e s)
  | .block id c, K, e, s => hwp P lm c { K with x := fun i e s => if i = id then K.n e s else K.x i e s } e s
  | .loop c, K, e, s => hloop (hwp P lm c) K e s
  | .exit id, K, e, s => K.x id e s
  | .ret, K, e, s => K.r e s
  | _, _, _, _ => False

def operOk (N : Nat) (o : Oper) : Bool := opOk N o.op && (match o.dst with | some t => decide (t < N) | none => true)
def codeOk (N : Nat) : Code → Bool
  | .region _ ops _ => ops.toList.all (operOk N)
  | .seq a b => codeOk N a && codeOk N b
  | .cond c a b => opndOk N c && codeOk N a && codeOk N b
  | .block _ c => codeOk N c
  | .loop c => codeOk N c
  | _ => true

/-! ### It is so of the machine -/
def hpost (w0 : World) (N : Nat) (M : Mem) (K : Kont) : Exit → Act → World → Prop
  | .normal, a, w => ∃ M' e s, MLe M M' ∧ Sim w0 M' s w ∧ EnvOk M' a.tmps e ∧ a.tmps.size = N ∧ a.defers = [] ∧ K.n e s
  | .ret, a, w => ∃ M' e s, MLe M M' ∧ Sim w0 M' s w ∧ EnvOk M' a.tmps e ∧ a.tmps.size = N ∧ a.defers = [] ∧ K.r e s
  | .exit id, a, w => ∃ M' e s, MLe M M' ∧ Sim w0 M' s w ∧ EnvOk M' a.tmps e ∧ a.tmps.size = N ∧ a.defers = [] ∧ K.x id e s
  | _, _, _ => False

theorem hpost_mono {N : Nat} {M M' : Mem} (hM : MLe M M') {K : Kont} {ex : Exit} {a : Act} {w : World} (h : hpost w0 N M' K ex a w) : hpost w0 N M K ex a w := by
  cases ex <;> first
    | exact h
    | (obtain ⟨M2, e, s, h1, h2⟩ := h; exact ⟨M2, e, s, hM.trans h1, h2⟩)

theorem put_size (a : Act) (t : Option Tmp) (v : Value) : (a.put t v).tmps.size = a.tmps.size := by cases t <;> simp [Act.put]
theorem put_defers (a : Act) (t : Option Tmp) (v : Value) : (a.put t v).defers = a.defers := by cases t <;> rfl
theorem EnvOk.put {a : Act} {e : Env} (h : EnvOk M a.tmps e) (t : Option Tmp) (v : Value) (d : D) (hd : Den M v d) : EnvOk M (a.put t v).tmps (updo e t d) := by
  cases t with
  | none => exact h
  | some t =>
    intro x hx
    simp only [Act.put, Array.size_setIfInBounds] at hx
    simp only [updo, upd]
    by_cases hxt : x = t
    · subst hxt
      rw [if_pos rfl]
      have : ((a.put (some x) v).tmps.getD x undef) = v := by simp [Act.put, Array.getD, hx]
      rw [this]; exact hd
    · rw [if_neg hxt]
      have : ((a.put (some t) v).tmps.getD x undef) = a.tmps.getD x undef := by
        simp only [Act.put, Array.getD_eq_getD_getElem?]
        rw [Array.getElem?_setIfInBounds_ne (fun e => hxt e.symm)]
      rw [this]; exact h x hx

/-- The guard as the machine asks it. -/
theorem guard_sound {ops : Array Oper} {a : Act} {e : Env} (he : EnvOk M a.tmps e) (hok : ∀ o ∈ ops, operOk a.tmps.size o = true) (o : Oper) {run skip : Prop} (h : guardD ops.toList o.guard e run skip) :
    (Region.wanted o (yielded ops a.tmps) = true ∧ run) ∨ (Region.wanted o (yielded ops a.tmps) = false ∧ skip) := by
  unfold guardD at h
  split at h
  · rename_i hg; exact .inl ⟨by simp [Region.wanted, hg], h⟩
  · rename_i j want hg
    split at h
    · rename_i hn
      rw [Array.getElem?_toList] at hn
      refine .inr ⟨?_, h⟩
      simp [Region.wanted, hg, yielded, hn]
    · rename_i t ht
      rw [Array.getElem?_toList] at ht
      obtain ⟨oj, hoj, hdst⟩ := Option.bind_eq_some_iff.1 ht
      have hlt : t < a.tmps.size := by
        have := hok oj (Array.mem_of_getElem? hoj)
        simp only [operOk, hdst, Bool.and_eq_true, decide_eq_true_eq] at this
        exact this.2
      have hd := he t hlt
      have hy : yielded ops a.tmps j = match a.tmps.getD t undef with | .bool b => some b | _ => none := by
        simp only [yielded, ht, Option.bind_some, Array.getElem?_eq_getElem hlt, Array.getD, hlt, dif_pos]
        split
        · rename_i b hb; injection hb with hb; simp [hb]
        · rename_i hb
          split
          · rename_i b hb2; exact (hb b (congrArg some hb2)).elim
          · rfl
      split at h
      · rename_i b hb
        rw [hb] at hd
        have := den_lit_inv hd
        rw [this] at hy
        simp only at hy
        cases want <;> cases b <;> simp [Region.wanted, hg, hy] at h ⊢ <;> exact h
      · rename_i x hb
        rw [hb] at hd
        have := den_lit_inv hd
        rw [this] at hy
        exact .inr ⟨by simp [Region.wanted, hg, hy], h⟩
      · exact h.elim

theorem oper_wp_mono {o : Oper} {a : Act} {w : World} {K K' : Act → World → Prop} {Q : Exit → Act → World → Prop} (h : ∀ a w, K a w → K' a w) (hh : o.wp P a w K Q) : o.wp P a w K' Q := Oper.wp_mono h hh

theorem hops_sound {ops : Array Oper} (lm : Bool) {N : Nat} (hok : ∀ o ∈ ops, operOk N o = true) (M0 : Mem) (K : Kont) : ∀ (r : List Oper) (hr : ∀ o ∈ r, o ∈ ops) (a : Act) (w : World) (M : Mem) (e : Env) (s : Store), MLe M0 M → Sim w0 M s w → EnvOk M a.tmps e → a.tmps.size = N → a.defers = [] →
    hops P lm ops.toList r e s K.n → wpList P ops (hpost w0 N M0 K) r a w := by
  intro r
  induction r with
  | nil =>
    intro hr a w M e s hM hs he hN hd h
    exact ⟨M, e, s, hM, hs, he, hN, hd, h⟩
  | cons o r ih =>
    intro hr a w M e s hM hs he hN hd h
    have hoo := hr o (by simp)
    have ho := hok o hoo
    subst hN
    rcases guard_sound he hok o h with ⟨hw, h⟩ | ⟨hw, h⟩
    · simp only [wpList, hw, if_true]
      refine .inl (oper_wp_mono ?_ (hop_sound hs he lm o (by simp only [operOk, Bool.and_eq_true] at ho; exact ho.1) h _))
      rintro a' w' ⟨v, M', d, σ', rfl, h1, h2, h3, h4⟩
      exact ih (fun o ho => hr o (by simp [ho])) _ w' M' _ σ' (hM.trans h1) h2 ((he.mono h1).put _ v d h3) (put_size _ _ _) (by rw [put_defers]; exact hd) h4
    · simp only [wpList, hw, Bool.false_eq_true, if_false]
      exact ih (fun o ho => hr o (by simp [ho])) _ w M _ s hM hs (he.put _ _ _ (.lit _)) (put_size _ _ _) (by rw [put_defers]; exact hd) h

/-! ### The order of the text does for every order -/
section Draw
variable {lm : Bool} {σ0 : Store} {all : List Oper}
/-- One operation, guard and all. -/
def G (P : Program) (lm : Bool) (σ0 : Store) (all : List Oper) (o : Oper) (e : Env) (s : Store) (F : Env → Store → Prop) : Prop :=
  guardD all o.guard e (stepD P lm σ0 o.op e s fun d s' => F (updo e o.dst d) s') (F (updo e o.dst (.lit undef)) s)
theorem hseq_cons (o : Oper) (r : List Oper) (e : Env) (s : Store) (N : Env → Store → Prop) : hseq P lm σ0 all (o :: r) e s N = G P lm σ0 all o e s (fun e s => hseq P lm σ0 all r e s N) := rfl
theorem guardD_cases {g : Option (Nat × Bool)} {e : Env} {run skip : Prop} (h : guardD all g e run skip) :
    (run ∧ ∀ e' : Env, (∀ t ∈ gdst all g, e' t = e t) → ∀ r s : Prop, guardD all g e' r s ↔ r) ∨ (skip ∧ ∀ e' : Env, (∀ t ∈ gdst all g, e' t = e t) → ∀ r s : Prop, guardD all g e' r s ↔ s) := by
  unfold guardD at h
  split at h
  · exact .inl ⟨h, fun e' _ r s => Iff.rfl⟩
  · rename_i j want
    split at h
    · rename_i hn
      refine .inr ⟨h, fun e' _ r s => ?_⟩
      simp only [guardD, hn]
    · rename_i t ht
      have hg : gdst all (some (j, want)) = [t] := by simp only [gdst, ht]
      split at h
      · rename_i b hb
        cases want <;> cases b <;> simp at h
        · refine .inl ⟨h, fun e' he r s => ?_⟩
          have := he t (by rw [hg]; simp)
          simp [guardD, ht, this, hb]
        · refine .inr ⟨h, fun e' he r s => ?_⟩
          have := he t (by rw [hg]; simp)
          simp [guardD, ht, this, hb]
        · refine .inr ⟨h, fun e' he r s => ?_⟩
          have := he t (by rw [hg]; simp)
          simp [guardD, ht, this, hb]
        · refine .inl ⟨h, fun e' he r s => ?_⟩
          have := he t (by rw [hg]; simp)
          simp [guardD, ht, this, hb]
      · rename_i vs hb
        refine .inr ⟨h, fun e' he r s => ?_⟩
        have := he t (by rw [hg]; simp)
        simp [guardD, ht, this, hb]
      · exact h.elim
theorem stepD_mono {o : Op} {e : Env} {s : Store} {K K' : D → Store → Prop} (hk : ∀ d s, K d s → K' d s) (h : stepD P lm σ0 o e s K) : stepD P lm σ0 o e s K' := by
  unfold stepD at h ⊢
  split
  · rename_i hc; rw [if_pos hc] at h; exact hop_mono (fun d _ => hk d s) h
  · rename_i hc; rw [if_neg hc] at h; exact hop_mono (fun d s' h => ⟨h.1, hk d s' h.2⟩) h
theorem stepD_frame {o : Op} {e e' : Env} {s : Store} {K : D → Store → Prop} (he : ∀ t ∈ tmpsOf o, e t = e' t) : stepD P lm σ0 o e s K = stepD P lm σ0 o e' s K := by
  unfold stepD
  rw [hop_frame he, hop_frame he]
/-- The same from another store of places, if what it reads is the same. -/
theorem G_frame {o : Oper} {e e' : Env} {s : Store} {F F' : Env → Store → Prop} (he : ∀ t ∈ readsOf all o, e' t = e t) (hF : ∀ d s', F (updo e o.dst d) s' → F' (updo e' o.dst d) s') (h : G P lm σ0 all o e s F) : G P lm σ0 all o e' s F' := by
  have hg : ∀ t ∈ gdst all o.guard, e' t = e t := fun t ht => he t (by simp [readsOf, ht])
  have ho : ∀ t ∈ tmpsOf o.op, e t = e' t := fun t ht => (he t (by simp [readsOf, ht])).symm
  unfold G at h ⊢
  rcases guardD_cases h with ⟨h, hc⟩ | ⟨h, hc⟩
  · rw [hc e' hg]
    rw [stepD_frame ho] at h
    exact stepD_mono (fun d s' h => hF d s' h) h
  · rw [hc e' hg]
    exact hF _ _ h
/-- Its value is fixed. -/
def Fixed (P : Program) (lm : Bool) (σ0 : Store) (all : List Oper) (o : Oper) (e : Env) (d : D) : Prop :=
  ∀ (e' : Env) (s' : Store) (F : Env → Store → Prop), (∀ t ∈ readsOf all o, e' t = e t) → (F (updo e' o.dst d) s' ↔ G P lm σ0 all o e' s' F)
theorem Fixed.frame {o : Oper} {e e' : Env} {d : D} (h : Fixed P lm σ0 all o e d) (he : ∀ t ∈ readsOf all o, e' t = e t) : Fixed P lm σ0 all o e' d :=
  fun e2 s2 F h2 => h e2 s2 F fun t ht => (h2 t ht).trans (he t ht)
theorem fixed_of {o : Oper} (hc : calm P lm o.op = true) {e : Env} {s : Store} {F : Env → Store → Prop} (h : G P lm σ0 all o e s F) : ∃ d, Fixed P lm σ0 all o e d := by
  unfold G at h
  rcases guardD_cases h with ⟨h, hg⟩ | ⟨h, hg⟩
  · unfold stepD at h
    rw [if_pos hc] at h
    obtain ⟨z, h1, h2⟩ := hop_one (K0 := fun d => F (updo e o.dst d) s) hc h
    refine ⟨z, fun e' s' F' he => ?_⟩
    have hgg : ∀ t ∈ gdst all o.guard, e' t = e t := fun t ht => he t (by simp [readsOf, ht])
    have ho : ∀ t ∈ tmpsOf o.op, e' t = e t := fun t ht => he t (by simp [readsOf, ht])
    unfold G
    rw [hg e' hgg]
    unfold stepD
    rw [if_pos hc, hop_frame ho]
    exact ⟨fun hF => h1 σ0 (fun d => F' (updo e' o.dst d) s') (SLe.refl _) hF, fun hF => h2 (fun d => F' (updo e' o.dst d) s') hF⟩
  · refine ⟨.lit undef, fun e' s' F' he => ?_⟩
    have hgg : ∀ t ∈ gdst all o.guard, e' t = e t := fun t ht => he t (by simp [readsOf, ht])
    unfold G
    rw [hg e' hgg]
theorem updo_other {e : Env} {t : Option Nat} {d : D} {x : Nat} (h : ∀ y, t = some y → x ≠ y) : updo e t d x = e x := by
  cases t with
  | none => rfl
  | some y => simp [updo, upd, h y rfl]
theorem updo_comm {e : Env} {a b : Option Nat} {x y : D} (h : ∀ p q, a = some p → b = some q → p ≠ q) : updo (updo e a x) b y = updo (updo e b y) a x := by
  cases a with
  | none => rfl
  | some p => cases b with
    | none => rfl
    | some q =>
      have := h p q rfl rfl
      funext t
      simp only [updo, upd]
      by_cases h1 : t = q <;> by_cases h2 : t = p <;> simp [h1, h2] <;> omega
structure Apart (P : Program) (lm : Bool) (all : List Oper) (a b : Oper) : Prop where
  dst : ∀ p q, a.dst = some p → b.dst = some q → p ≠ q
  ab : ∀ p, a.dst = some p → ∀ t ∈ readsOf all b, t ≠ p
  ba : ∀ q, b.dst = some q → ∀ t ∈ readsOf all a, t ≠ q
  eff : calm P lm a.op = true ∨ calm P lm b.op = true
theorem apart_of {a b : Oper} (h : apart P lm all a b = true) : Apart P lm all a b := by
  unfold apart at h
  simp only [Bool.and_eq_true, Bool.or_eq_true] at h
  obtain ⟨⟨⟨h1, h2⟩, h3⟩, h4⟩ := h
  refine ⟨fun p q hp hq => ?_, fun p hp t ht => ?_, fun q hq t ht => ?_, h4⟩
  · rw [hp, hq] at h1; simpa using h1
  · rw [hp] at h2
    rintro rfl
    simp [ht] at h2
  · rw [hq] at h3
    rintro rfl
    simp [ht] at h3
/-- A calm one is taken out of the list. -/
theorem removeC {k : Oper} {dk : D} (N : Env → Store → Prop) (L2 : List Oper) : ∀ (L1 : List Oper) (e : Env) (s : Store), (∀ a ∈ L1, Apart P lm all a k) → Fixed P lm σ0 all k e dk → hseq P lm σ0 all (L1 ++ k :: L2) e s N → hseq P lm σ0 all (L1 ++ L2) (updo e k.dst dk) s N := by
  intro L1
  induction L1 with
  | nil => intro e s _ hf h; rw [List.nil_append, hseq_cons] at h; exact (hf e s _ (fun _ _ => rfl)).2 h
  | cons a L1 ih =>
    intro e s hap hf h
    have ha := hap a (by simp)
    rw [List.cons_append, hseq_cons] at h ⊢
    refine G_frame (e := e) (fun t ht => updo_other fun y hy => ha.ba y hy t ht) (fun d s' hd => ?_) h
    rw [← updo_comm (fun p q hp hq => ha.dst p q hp hq)]
    exact ih _ _ (fun b hb => hap b (by simp [hb])) (hf.frame fun t ht => updo_other fun y hy => ha.ab y hy t ht) hd
/-- One that leaves a trace is carried out first. -/
theorem removeE {k : Oper} (hk : calm P lm k.op = false) (N : Env → Store → Prop) (L2 : List Oper) : ∀ (L1 : List Oper) (e : Env) (s : Store), (∀ a ∈ L1, Apart P lm all a k) → hseq P lm σ0 all (L1 ++ k :: L2) e s N → G P lm σ0 all k e s (fun e s => hseq P lm σ0 all (L1 ++ L2) e s N) := by
  intro L1
  induction L1 with
  | nil => intro e s _ h; exact h
  | cons a L1 ih =>
    intro e s hap h
    have ha := hap a (by simp)
    have hca : calm P lm a.op = true := by rcases ha.eff with h | h; exact h; rw [hk] at h; cases h
    rw [List.cons_append, hseq_cons] at h
    obtain ⟨d, hd⟩ := fixed_of hca h
    have h := (hd e s _ (fun _ _ => rfl)).2 h
    have h := ih _ _ (fun b hb => hap b (by simp [hb])) h
    refine G_frame (e := updo e a.dst d) (fun t ht => (updo_other fun y hy => ha.ab y hy t ht).symm) (fun d' s' hd' => ?_) h
    rw [List.cons_append, hseq_cons]
    refine (hd _ _ _ (fun t ht => updo_other fun y hy => ha.ba y hy t ht)).1 ?_
    rw [← updo_comm (fun p q hp hq => ha.dst p q hp hq)]
    exact hd'
/-- One operation of the machine. -/
theorem G_machine {ops : Array Oper} {a : Act} {e : Env} {s : Store} (hs : Sim w0 M s w) (he : EnvOk M a.tmps e) (hok : ∀ o ∈ ops, operOk a.tmps.size o = true) {o : Oper} (ho : o ∈ ops) (hss : SLe σ0 s) {F : Env → Store → Prop} (h : G P lm σ0 ops.toList o e s F) :
    ∀ (Q : Exit → Act → World → Prop), if Region.wanted o (yielded ops a.tmps) = true then o.wp P a w (fun a' w' => ∃ v M' d s', a' = a.put o.dst v ∧ MLe M M' ∧ Sim w0 M' s' w' ∧ Den M' v d ∧ SLe σ0 s' ∧ F (updo e o.dst d) s') Q else F (updo e o.dst (.lit undef)) s := by
  intro Q
  have hoo := hok o ho
  simp only [operOk, Bool.and_eq_true] at hoo
  unfold G at h
  rcases guard_sound he hok o h with ⟨hw, h⟩ | ⟨hw, h⟩
  · rw [if_pos hw]
    have h2 : hop P lm o.op e s (fun d s' => SLe σ0 s' ∧ F (updo e o.dst d) s') := by
      unfold stepD at h
      split at h
      · rename_i hc
        obtain ⟨z, h1, h2⟩ := hop_one (K0 := fun d => F (updo e o.dst d) s) hc h
        rw [calm_at hc]
        exact h1 s _ hss ⟨hss, h2 _ h⟩
      · exact h
    refine oper_wp_mono ?_ (hop_sound hs he lm o hoo.1 h2 Q)
    rintro a' w' ⟨v, M', d, σ', h1, h2, h3, h4, h5⟩
    exact ⟨v, M', d, σ', h1, h2, h3, h4, h5.1, h5.2⟩
  · rw [if_neg (by simp [hw])]
    exact h
end Draw

theorem wp_some {o : Oper} {a : Act} {K : Act → World → Prop} (h : o.wp P a w K (fun _ _ _ => False)) : ∃ a' w', K a' w' := by
  unfold Oper.wp Oper.upon at h
  split at h
  · exact ⟨_, _, h⟩
  · exact ⟨_, _, h⟩
  · exact ⟨_, _, h⟩
  · obtain ⟨e, w', fr, h, -⟩ := h []
    cases e with
    | returned v => exact ⟨_, _, h⟩
    | panicked c => exact h.elim
    | outgrown => obtain ⟨_, _, h⟩ := h; exact h.elim
  · obtain ⟨v, w', h, -⟩ := h (Frame.ofRow P ‹String› ‹Array Value› .normal) []
    exact ⟨_, _, h⟩
  · exact h.elim
  · exact h.elim
section Draw2
variable {lm : Bool} {σ0 : Store}
/-- What a calm one comes to is fixed, as the machine could carry out what stands ahead of it. -/
theorem fixed_machine {ops : Array Oper} {N : Nat} (hok : ∀ o ∈ ops, operOk N o = true) {k : Oper} (hk : calm P lm k.op = true) (Nx : Env → Store → Prop) (L2 : List Oper) : ∀ (L1 : List Oper) (a : Act) (w : World) (M : Mem) (e : Env) (s : Store), (∀ x ∈ L1, x ∈ ops) → (∀ x ∈ L1, Apart P lm ops.toList x k) →
    Sim w0 M s w → EnvOk M a.tmps e → a.tmps.size = N → SLe σ0 s → hseq P lm σ0 ops.toList (L1 ++ k :: L2) e s Nx → ∃ d, Fixed P lm σ0 ops.toList k e d := by
  intro L1
  induction L1 with
  | nil => intro a w M e s _ _ _ _ _ _ h; rw [List.nil_append, hseq_cons] at h; exact fixed_of hk h
  | cons x L1 ih =>
    intro a w M e s hin hap hs he hN hss h
    subst hN
    rw [List.cons_append, hseq_cons] at h
    have hx := hap x (by simp)
    have back : ∀ d d', Fixed P lm σ0 ops.toList k (updo e x.dst d) d' → Fixed P lm σ0 ops.toList k e d' := fun d d' hf => hf.frame fun t ht => (updo_other fun y hy => hx.ab y hy t ht).symm
    have hm := G_machine hs he hok (hin x (by simp)) hss h (fun _ _ _ => False)
    split at hm
    · obtain ⟨a', w', v, M', d, s', rfl, h1, h2, h3, h4, h5⟩ := wp_some hm
      obtain ⟨d', hd'⟩ := ih _ _ M' _ _ (fun y hy => hin y (by simp [hy])) (fun y hy => hap y (by simp [hy])) h2 ((he.mono h1).put _ v d h3) (put_size _ _ _) h4 h5
      exact ⟨d', back d d' hd'⟩
    · obtain ⟨d', hd'⟩ := ih (a.put x.dst undef) w M _ s (fun y hy => hin y (by simp [hy])) (fun y hy => hap y (by simp [hy])) hs (he.put x.dst undef (.lit undef) (.lit _)) (put_size _ _ _) hss hm
      exact ⟨d', back _ d' hd'⟩

def pend (listed : Array Bool) (n : Nat) : List Nat := (List.range n).filter fun i => !listed.getD i true
theorem pend_split (listed : Array Bool) (n k : Nat) (hk : k < n) (hl : listed.getD k true = false) :
    ∃ p1 p2, pend listed n = p1 ++ k :: p2 ∧ pend (listed.setIfInBounds k true) n = p1 ++ p2 ∧ ∀ j ∈ p1, j < k ∧ listed.getD j true = false := by
  have hr : List.range n = List.range k ++ k :: (List.range' (k + 1) (n - (k + 1))) := by
    rw [List.range_eq_range', List.range_eq_range']
    have h1 : List.range' 0 n = List.range' 0 k ++ List.range' (0 + k) (n - k) := by rw [List.range'_append_1]; congr 1; omega
    rw [h1]
    congr 1
    have : n - k = (n - (k + 1)) + 1 := by omega
    rw [this, List.range'_succ]; simp
  have hset : ∀ i, i ≠ k → (listed.setIfInBounds k true).getD i true = listed.getD i true := fun i hi => by
    simp only [Array.getD_eq_getD_getElem?]
    rw [Array.getElem?_setIfInBounds_ne (fun e => hi e.symm)]
  have hkk : (listed.setIfInBounds k true).getD k true = true := by
    simp only [Array.getD_eq_getD_getElem?, Array.getElem?_setIfInBounds]
    simp only [if_true]
    split <;> rfl
  refine ⟨(List.range k).filter fun i => !listed.getD i true, (List.range' (k + 1) (n - (k + 1))).filter fun i => !listed.getD i true, ?_, ?_, ?_⟩
  · unfold pend
    rw [hr, List.filter_append, List.filter_cons]
    simp [hl]
  · unfold pend
    rw [hr, List.filter_append, List.filter_cons]
    rw [hkk]
    simp only [Bool.not_true, Bool.false_eq_true, if_false]
    congr 1
    · refine List.filter_congr fun i hi => ?_
      have : i < k := by simpa using hi
      rw [hset i (by omega)]
    · refine List.filter_congr fun i hi => ?_
      have := List.mem_range'_1.1 hi
      rw [hset i (by omega)]
  · intro j hj
    have := List.mem_filter.1 hj
    exact ⟨by simpa using this.1, by simpa using this.2⟩

theorem ancOf_bit (acc : List Nat) (l : List Edge) (j : Nat) (h : (ancOf acc l).testBit j = true) : ∃ e ∈ l, j = e.on ∨ (acc.getD e.on 0).testBit j = true := by
  induction l with
  | nil => simp [ancOf] at h
  | cons e l ih =>
    simp only [ancOf, List.foldr_cons, Nat.testBit_or, Bool.or_eq_true] at h
    rcases h with (h | h) | h
    · refine ⟨e, by simp, .inl ?_⟩
      rw [Nat.one_shiftLeft, Nat.testBit_two_pow] at h
      simpa using (of_decide_eq_true h).symm
    · exact ⟨e, by simp, .inr h⟩
    · obtain ⟨e', he, hj⟩ := ih h
      exact ⟨e', by simp [he], hj⟩
theorem ancOf_congr {acc acc' : List Nat} {l : List Edge} (h : ∀ e ∈ l, acc.getD e.on 0 = acc'.getD e.on 0) : ancOf acc l = ancOf acc' l := by
  induction l with
  | nil => rfl
  | cons e l ih =>
    simp only [ancOf, List.foldr_cons]
    rw [h e (by simp)]
    have := ih fun e he => h e (by simp [he])
    simp only [ancOf] at this
    rw [this]
theorem ancs_prefix : ∀ (r : List Oper) (acc : List Nat), ∃ t, ancs r acc = acc ++ t := by
  intro r
  induction r with
  | nil => intro acc; exact ⟨[], by simp [ancs]⟩
  | cons o r ih =>
    intro acc
    obtain ⟨t, ht⟩ := ih (acc ++ [ancOf acc (o.after.toList.filter (Region.binds .any))])
    exact ⟨_, by rw [ancs, ht, List.append_assoc]⟩
theorem ancs_get : ∀ (r : List Oper) (acc : List Nat) (i : Nat) (o : Oper), r[i]? = some o → (∀ e ∈ o.after.toList, Region.binds .any e = true → e.on < acc.length + i) →
    (ancs r acc).getD (acc.length + i) 0 = ancOf (ancs r acc) (o.after.toList.filter (Region.binds .any)) := by
  intro r
  induction r with
  | nil => intro acc i o h; simp at h
  | cons x r ih =>
    intro acc i o h hb
    cases i with
    | zero =>
      simp only [List.getElem?_cons_zero, Option.some.injEq] at h
      subst h
      rw [ancs]
      obtain ⟨t, ht⟩ := ancs_prefix r (acc ++ [ancOf acc (x.after.toList.filter (Region.binds .any))])
      rw [ht]
      have h1 : ((acc ++ [ancOf acc (x.after.toList.filter (Region.binds .any))]) ++ t).getD (acc.length + 0) 0 = ancOf acc (x.after.toList.filter (Region.binds .any)) := by
        simp [List.getD_eq_getElem?_getD]
      rw [h1]
      refine ancOf_congr fun e he => ?_
      have := List.mem_filter.1 he
      have := hb e this.1 this.2
      have hlt : e.on < acc.length := by omega
      simp only [List.getD_eq_getElem?_getD, List.append_assoc]
      rw [List.getElem?_append_left hlt]
    | succ i =>
      simp only [List.getElem?_cons_succ] at h
      rw [ancs]
      have := ih (acc ++ [ancOf acc (x.after.toList.filter (Region.binds .any))]) i o h (fun e he hbe => by have := hb e he hbe; simp only [List.length_append, List.length_singleton]; omega)
      simp only [List.length_append, List.length_singleton] at this
      rw [show acc.length + (i + 1) = acc.length + 1 + i from by omega]
      exact this

theorem seq_any {ops : Array Oper} (hd : drawOk P lm ops.toList = true) {N : Nat} (hok : ∀ o ∈ ops, operOk N o = true) (M0 : Mem) (K : Kont) (c : Nat) (hcs : c ≤ ops.size) (hcut : ∀ k, c ≤ k → k < ops.size → ∀ i, i < c → ((ancs ops.toList []).getD k 0).testBit i = true) (Nx : Env → Store → Prop)
    (tail : ∀ (listed : Array Bool) (a : Act) (w : World) (M : Mem) (e : Env) (s : Store), listed.size = ops.size → (∀ i j, listed.getD i false = true → ((ancs ops.toList []).getD i 0).testBit j = true → listed.getD j false = true) →
      pend listed c = [] → (∀ i, c ≤ i → i < ops.size → listed.getD i true = false) → MLe M0 M → Sim w0 M s w → EnvOk M a.tmps e → a.tmps.size = N → a.defers = [] → Nx e s → wpAny P .any ops (hpost w0 N M0 K) (ops.size - c) listed a w) : ∀ (fuel : Nat) (listed : Array Bool) (a : Act) (w : World) (M : Mem) (e : Env) (s : Store),
    (pend listed c).length = fuel → listed.size = ops.size → (∀ i j, listed.getD i false = true → ((ancs ops.toList []).getD i 0).testBit j = true → listed.getD j false = true) → (∀ i, c ≤ i → i < ops.size → listed.getD i true = false) →
    MLe M0 M → Sim w0 M s w → EnvOk M a.tmps e → a.tmps.size = N → a.defers = [] → SLe σ0 s →
    hseq P lm σ0 ops.toList ((pend listed c).filterMap fun i => ops[i]?) e s Nx → wpAny P .any ops (hpost w0 N M0 K) (fuel + (ops.size - c)) listed a w := by
  unfold drawOk at hd
  rw [Bool.and_eq_true] at hd
  have hon : ∀ (i : Nat) (o : Oper), ops[i]? = some o → ∀ e ∈ o.after.toList, Region.binds .any e = true → e.on < i := by
    intro i o ho e he hb
    have hi : i < ops.size := (Array.getElem?_eq_some_iff.1 ho).1
    have := List.all_eq_true.1 hd.1 i (by simpa using hi)
    rw [Array.getElem?_toList, ho] at this
    have := List.all_eq_true.1 this e he
    rw [hb] at this
    simpa using this
  have hpair : ∀ (j k : Nat) (oj ok : Oper), ops[j]? = some oj → ops[k]? = some ok → j < k → ¬ ((ancs ops.toList []).getD k 0).testBit j = true → Apart P lm ops.toList oj ok := by
    intro j k oj ok hj hk hlt hn
    have hi : k < ops.size := (Array.getElem?_eq_some_iff.1 hk).1
    have := List.all_eq_true.1 (List.all_eq_true.1 hd.2 k (by simpa using hi)) j (by simpa using hlt)
    rw [Array.getElem?_toList, Array.getElem?_toList, hj, hk, Bool.or_eq_true] at this
    rcases this with h | h
    · exact absurd h hn
    · exact apart_of h
  have hanc : ∀ (k : Nat) (o : Oper), ops[k]? = some o → ∀ j, ((ancs ops.toList []).getD k 0).testBit j = true → ∃ e ∈ o.after.toList, Region.binds .any e = true ∧ (j = e.on ∨ ((ancs ops.toList []).getD e.on 0).testBit j = true) := by
    intro k o ho j hj
    have := ancs_get ops.toList [] k o (by rw [Array.getElem?_toList]; exact ho) (fun e he hb => by simpa using hon k o ho e he hb)
    simp only [List.length_nil, Nat.zero_add] at this
    rw [this] at hj
    obtain ⟨e, he, hj⟩ := ancOf_bit _ _ _ hj
    have := List.mem_filter.1 he
    exact ⟨e, this.1, this.2, hj⟩
  have hgd : ∀ (listed : Array Bool) (i : Nat), listed.size = ops.size → i < ops.size → listed.getD i true = listed.getD i false := by
    intro listed i h1 h2
    simp [Array.getD, h1, h2]
  have ready_mem : ∀ (listed : Array Bool) (i : Nat), i ∈ Region.ready .any ops listed ↔ ∃ o, ops[i]? = some o ∧ listed.getD i true = false ∧ ∀ e ∈ o.after.toList, Region.binds .any e = true → listed.getD e.on false = true := by
    intro listed i
    unfold Region.ready
    rw [List.mem_filter]
    constructor
    · rintro ⟨h1, h2⟩
      have hi : i < ops.size := by simpa using h1
      obtain ⟨o, ho⟩ : ∃ o, ops[i]? = some o := ⟨ops[i], by simp [hi]⟩
      rw [ho] at h2
      simp only [Option.map_some, Option.getD_some, Bool.and_eq_true, Bool.not_eq_true'] at h2
      refine ⟨o, ho, h2.1, fun e he hb => ?_⟩
      have := Array.all_eq_true'.1 h2.2 e (by simpa using he)
      rw [hb] at this; simpa using this
    · rintro ⟨o, ho, h1, h2⟩
      refine ⟨by have := (Array.getElem?_eq_some_iff.1 ho).1; simpa using this, ?_⟩
      rw [ho]
      simp only [Option.map_some, Option.getD_some, Bool.and_eq_true, Bool.not_eq_true']
      refine ⟨h1, Array.all_eq_true'.2 fun e he => ?_⟩
      by_cases hb : Region.binds .any e = true
      · rw [h2 e (by simpa using he) hb]; simp
      · simp [hb]
  have empty : ∀ listed : Array Bool, listed.size = ops.size → Region.ready .any ops listed = [] → pend listed c = [] := by
    intro listed hls hr
    cases hp : pend listed c with
    | nil => rfl
    | cons i rest =>
      exfalso
      have hmem : i ∈ pend listed c := by rw [hp]; simp
      have hi := List.mem_filter.1 hmem
      have hi0 : i < c := by simpa using hi.1
      have hi1 : i < ops.size := by omega
      have hi2 : listed.getD i true = false := by simpa using hi.2
      obtain ⟨o, ho⟩ : ∃ o, ops[i]? = some o := ⟨ops[i], by simp [hi1]⟩
      obtain ⟨p1, p2, e1, -, e3⟩ := pend_split listed c i hi0 hi2
      have hp1 : p1 = [] := by
        rw [hp] at e1
        cases p1 with
        | nil => rfl
        | cons x p1 =>
          simp only [List.cons_append, List.cons.injEq] at e1
          have := (e3 x (by simp)).1
          omega
      have : i ∈ Region.ready .any ops listed := (ready_mem listed i).2 ⟨o, ho, hi2, fun e he hb => by
        have hlt := hon i o ho e he hb
        cases hl : listed.getD e.on false with
        | true => rfl
        | false =>
          exfalso
          have h4 : e.on ∈ (List.range i).filter fun i => !listed.getD i true := List.mem_filter.2 ⟨by simpa using hlt, by rw [hgd listed _ hls (by omega), hl]; rfl⟩
          have h5 : e.on ∈ pend listed c := List.mem_filter.2 ⟨by simp; omega, by rw [hgd listed _ hls (by omega), hl]; rfl⟩
          rw [e1, hp1] at h5
          have hsorted : ∀ x ∈ p2, i < x ∨ x ∈ p2 := fun x hx => .inr hx
          have hpw : (pend listed c).Pairwise (· < ·) := List.Pairwise.filter _ List.pairwise_lt_range
          rw [e1, hp1, List.nil_append, List.pairwise_cons] at hpw
          simp only [List.nil_append, List.mem_cons] at h5
          rcases h5 with h5 | h5
          · omega
          · have := hpw.1 _ h5; omega⟩
      rw [hr] at this; cases this
  intro fuel
  induction fuel with
  | zero =>
    intro listed a w M e s hlen hls hdc hun hM hs he hN hdf hss h
    have hp : pend listed c = [] := List.eq_nil_of_length_eq_zero hlen
    rw [hp] at h
    rw [Nat.zero_add]
    exact tail listed a w M e s hls hdc hp hun hM hs he hN hdf h
  | succ fuel ih =>
    intro listed a w M e s hlen hls hdc hun hM hs he hN hdf hss h
    rw [show fuel + 1 + (ops.size - c) = (fuel + (ops.size - c)) + 1 from by omega]
    refine ⟨fun hr => ?_, fun k hk => ?_⟩
    · rw [empty listed hls hr] at hlen; cases hlen
    · obtain ⟨o, ho, hl, haf⟩ := (ready_mem listed k).1 hk
      have hki : k < ops.size := (Array.getElem?_eq_some_iff.1 ho).1
      have hall : ∀ j, ((ancs ops.toList []).getD k 0).testBit j = true → listed.getD j false = true := by
        intro j hj
        obtain ⟨e, he, hb, hor⟩ := hanc k o ho j hj
        have := haf e he hb
        rcases hor with rfl | hor
        · exact this
        · exact hdc _ _ this hor
      have hkc : k < c := by
        refine Nat.lt_of_not_le fun hck => ?_
        have hnil : pend listed c = [] := by
          unfold pend
          rw [List.filter_eq_nil_iff]
          intro i hi
          have hi : i < c := by simpa using hi
          have := hall i (hcut k hck hki i hi)
          rw [hgd listed i hls (by omega), this]
          simp
        rw [hnil] at hlen; cases hlen
      obtain ⟨p1, p2, e1, e2, e3⟩ := pend_split listed c k hkc hl
      have hlist : ((pend listed c).filterMap fun i => ops[i]?) = (p1.filterMap fun i => ops[i]?) ++ o :: (p2.filterMap fun i => ops[i]?) := by
        rw [e1, List.filterMap_append, List.filterMap_cons, ho]
      have hlist2 : ((pend (listed.setIfInBounds k true) c).filterMap fun i => ops[i]?) = (p1.filterMap fun i => ops[i]?) ++ (p2.filterMap fun i => ops[i]?) := by
        rw [e2, List.filterMap_append]
      have hset : ∀ i, listed.getD i false = true → (listed.setIfInBounds k true).getD i false = true := fun i hi => by
        simp only [Array.getD_eq_getD_getElem?, Array.getElem?_setIfInBounds] at hi ⊢
        split
        · split <;> simp_all
        · exact hi
      have hap : ∀ x ∈ (p1.filterMap fun i => ops[i]?), Apart P lm ops.toList x o := by
        intro x hx
        obtain ⟨j, hj, hxj⟩ := List.mem_filterMap.1 hx
        obtain ⟨hlt, hjl⟩ := e3 j hj
        refine hpair j k x o hxj ho hlt fun hmem => ?_
        have := hall j hmem
        rw [hgd listed j hls (by omega)] at hjl
        rw [hjl] at this; cases this
      have hin : ∀ x ∈ (p1.filterMap fun i => ops[i]?), x ∈ ops := fun x hx => by
        obtain ⟨j, -, hxj⟩ := List.mem_filterMap.1 hx
        exact Array.mem_of_getElem? hxj
      have hdc' : ∀ i j, (listed.setIfInBounds k true).getD i false = true → ((ancs ops.toList []).getD i 0).testBit j = true → (listed.setIfInBounds k true).getD j false = true := by
        intro i j hi hj
        by_cases hik : i = k
        · subst hik; exact hset j (hall j hj)
        · refine hset j (hdc i j ?_ hj)
          simp only [Array.getD_eq_getD_getElem?] at hi ⊢
          rwa [Array.getElem?_setIfInBounds_ne (fun e => hik e.symm)] at hi
      have hlen' : (pend (listed.setIfInBounds k true) c).length = fuel := by
        rw [e1] at hlen; rw [e2]
        simp only [List.length_append, List.length_cons] at hlen ⊢
        omega
      have hun' : ∀ i, c ≤ i → i < ops.size → (listed.setIfInBounds k true).getD i true = false := fun i h1 h2 => by
        have := hun i h1 h2
        simp only [Array.getD_eq_getD_getElem?] at this ⊢
        rwa [Array.getElem?_setIfInBounds_ne (by omega)]
      rw [hlist] at h
      have hG : G P lm σ0 ops.toList o e s (fun e s => hseq P lm σ0 ops.toList ((p1.filterMap fun i => ops[i]?) ++ (p2.filterMap fun i => ops[i]?)) e s Nx) := by
        cases hc : calm P lm o.op with
        | true =>
          obtain ⟨d, hf⟩ := fixed_machine hok hc Nx _ _ a w M e s hin hap hs he hN hss h
          exact (hf e s _ (fun _ _ => rfl)).1 (removeC Nx _ _ e s hap hf h)
        | false => exact removeE hc Nx _ _ e s hap h
      subst hN
      have hm := G_machine hs he hok (Array.mem_of_getElem? ho) hss hG (hpost w0 a.tmps.size M0 K)
      unfold wpOp
      rw [ho]
      simp only
      split at hm
      · rename_i hw
        rw [if_pos hw]
        refine .inl (oper_wp_mono ?_ hm)
        rintro a' w' ⟨v, M', d, s', rfl, h1, h2, h3, h4, h5⟩
        exact ih _ _ w' M' _ s' hlen' (by simpa using hls) hdc' hun' (hM.trans h1) h2 ((he.mono h1).put _ v d h3) (put_size _ _ _) (by rw [put_defers]; exact hdf) h4 (by rw [hlist2]; exact h5)
      · rename_i hw
        rw [if_neg hw]
        exact ih _ _ w M _ s hlen' (by simpa using hls) hdc' hun' hM hs (he.put _ _ _ (.lit _)) (put_size _ _ _) (by rw [put_defers]; exact hdf) hss (by rw [hlist2]; exact hm)
end Draw2

theorem hAny_sound {ops : Array Oper} (lm : Bool) {N : Nat} (hok : ∀ o ∈ ops, operOk N o = true) (M0 : Mem) (K : Kont) : ∀ (fuel : Nat) (listed : Array Bool) (a : Act) (w : World) (M : Mem) (e : Env) (s : Store), MLe M0 M → Sim w0 M s w → EnvOk M a.tmps e → a.tmps.size = N → a.defers = [] →
    hAny P lm ops fuel listed e s K.n → wpAny P .any ops (hpost w0 N M0 K) fuel listed a w := by
  intro fuel
  induction fuel with
  | zero =>
    intro listed a w M e s hM hs he hN hd h
    exact ⟨h.1, ⟨M, e, s, hM, hs, he, hN, hd, h.2⟩⟩
  | succ fuel ih =>
    intro listed a w M e s hM hs he hN hd h
    refine ⟨fun hr => ⟨M, e, s, hM, hs, he, hN, hd, h.1 hr⟩, fun i hi => ?_⟩
    have h2 := h.2 i hi
    unfold wpOp
    cases ho : ops[i]? with
    | none => rw [ho] at h2; exact ih _ a w M e s hM hs he hN hd h2
    | some o =>
      rw [ho] at h2
      simp only at h2 ⊢
      have hoo := hok o (Array.mem_of_getElem? ho)
      subst hN
      rcases guard_sound he hok o h2 with ⟨hw, h3⟩ | ⟨hw, h3⟩
      · rw [if_pos hw]
        refine .inl (oper_wp_mono ?_ (hop_sound hs he lm o (by simp only [operOk, Bool.and_eq_true] at hoo; exact hoo.1) h3 _))
        rintro a' w' ⟨v, M', d, σ', rfl, h1, h2, h3, h4⟩
        exact ih _ _ w' M' _ σ' (hM.trans h1) h2 ((he.mono h1).put _ v d h3) (put_size _ _ _) (by rw [put_defers]; exact hd) h4
      · rw [hw]
        exact ih _ _ w M _ s hM hs (he.put _ _ _ (.lit _)) (put_size _ _ _) (by rw [put_defers]; exact hd) h3

theorem hdraw_sound (lm : Bool) {ops : Array Oper} {N : Nat} (hok : ∀ o ∈ ops, operOk N o = true) (M0 : Mem) (K : Kont) (a : Act) (w : World) (M : Mem) (e : Env) (s : Store) (hM : MLe M0 M) (hs : Sim w0 M s w) (he : EnvOk M a.tmps e) (hN : a.tmps.size = N) (hd : a.defers = [])
    (h : hdraw P lm ops e s K.n) : wpAny P .any ops (hpost w0 N M0 K) ops.size (Array.replicate ops.size false) a w := by
  rcases h with h | ⟨h1, c, σ0, hc, hle, h2⟩
  · exact hAny_sound lm hok M0 K _ _ a w M e s hM hs he hN hd h
  · have hrep : ∀ i, (Array.replicate ops.size false).getD i false = false := fun i => by
      simp only [Array.getD_eq_getD_getElem?, Array.getElem?_replicate]; split <;> rfl
    unfold cutOk at hc
    simp only [Bool.and_eq_true, decide_eq_true_eq, Array.length_toList, List.all_eq_true, List.mem_range, Bool.or_eq_true] at hc
    obtain ⟨hc0, hc1⟩ := hc
    have hcut : ∀ k, c ≤ k → k < ops.size → ∀ i, i < c → ((ancs ops.toList []).getD k 0).testBit i = true := fun k h1 h2 i hi => by
      rcases hc1 k h2 with h | h
      · omega
      · exact h i hi
    have gen : ∀ (l : List Oper) (m : Nat), m ≤ l.length → ((List.range m).filterMap fun i => l[i]?) = l.take m := by
      intro l
      induction l with
      | nil => intro m hm; simp at hm; subst hm; rfl
      | cons x l ih =>
        intro m hm
        cases m with
        | zero => rfl
        | succ m =>
          rw [List.range_succ_eq_map, List.filterMap_cons]
          simp only [List.getElem?_cons_zero, List.filterMap_map, List.take_succ_cons]
          congr 1
          exact ih m (by simpa using hm)
    have hp : pend (Array.replicate ops.size false) c = List.range c := by
      unfold pend
      rw [List.filter_eq_self]
      intro i hi
      have : i < ops.size := by have : i < c := by simpa using hi
                                omega
      simp [Array.getD_eq_getD_getElem?, Array.getElem?_replicate, this]
    have key := seq_any (σ0 := σ0) (w0 := w0) h1 hok M0 K c hc0 hcut (fun e s => ∃ σ1, SLe σ1 s ∧ hseq P lm σ1 ops.toList (ops.toList.drop c) e s K.n) ?_ c (Array.replicate ops.size false) a w M e s (by rw [hp]; simp) (by simp) (fun i j hi => by rw [hrep] at hi; cases hi) (fun i _ hi => by simp [Array.getD_eq_getD_getElem?, Array.getElem?_replicate, hi]) hM hs he hN hd hle ?_
    · rw [show c + (ops.size - c) = ops.size from by omega] at key; exact key
    · rintro listed a w M e s hls hdc hpd hun hM hs he hN hd ⟨σ1, hle1, h3⟩
      have hp2 : (pend listed ops.size).filterMap (fun i => ops[i]?) = ops.toList.drop c := by
        have e1 : pend listed ops.size = (List.range' c (ops.size - c)) := by
          have hr : List.range ops.size = List.range c ++ List.range' c (ops.size - c) := by
            rw [List.range'_eq_map_range, ← List.range_add]
            congr 1; omega
          unfold pend at hpd ⊢
          rw [hr, List.filter_append, hpd, List.nil_append, List.filter_eq_self]
          intro i hi
          have := List.mem_range'_1.1 hi
          rw [hun i this.1 (by omega)]; rfl
        rw [e1]
        have := gen (ops.toList.drop c) (ops.size - c) (by simp)
        rw [List.take_of_length_le (by simp)] at this
        rw [← this, List.range'_eq_map_range, List.filterMap_map]
        congr 1
        funext i
        simp
      have key2 := seq_any (σ0 := σ1) (w0 := w0) h1 hok M0 K ops.size (Nat.le_refl _) (fun k h1 h2 => by omega) K.n ?_ (pend listed ops.size).length listed a w M e s rfl hls hdc (fun i h1 h2 => by omega) hM hs he hN hd hle1 (by rw [hp2]; exact h3)
      · have hl : (pend listed ops.size).length = ops.size - c := by
          have hr : List.range ops.size = List.range c ++ List.range' c (ops.size - c) := by
            rw [List.range'_eq_map_range, ← List.range_add]
            congr 1; omega
          unfold pend at hpd ⊢
          rw [hr, List.filter_append, hpd, List.nil_append]
          rw [List.filter_eq_self.2]
          · simp
          · intro i hi
            have := List.mem_range'_1.1 hi
            rw [hun i this.1 (by omega)]; rfl
        rw [hl, Nat.sub_self, Nat.add_zero] at key2
        exact key2
      · intro listed a w M e s hls hdc hpd hun hM hs he hN hdf hn
        rw [Nat.sub_self]
        refine ⟨?_, ⟨M, e, s, hM, hs, he, hN, hdf, hn⟩⟩
        cases hr : Region.ready .any ops listed with
        | nil => rfl
        | cons i r =>
          exfalso
          have hmem : i ∈ Region.ready .any ops listed := by rw [hr]; simp
          unfold Region.ready at hmem
          obtain ⟨g1, g2⟩ := List.mem_filter.1 hmem
          have hi : i < ops.size := by simpa using g1
          have ho : ops[i]? = some ops[i] := by simp [hi]
          rw [ho] at g2
          simp only [Option.map_some, Option.getD_some, Bool.and_eq_true, Bool.not_eq_true'] at g2
          have : i ∈ pend listed ops.size := List.mem_filter.2 ⟨by simpa using hi, by rw [g2.1]; rfl⟩
          rw [hpd] at this; cases this
    · rw [hp]
      have := gen ops.toList c (by simpa using hc0)
      simp only [Array.getElem?_toList] at this
      rw [this]; exact h2

/-- A loop, by what holds at each round's head with so many rounds to go. -/
theorem wp_loopN {c : Code} {Q : Exit → Act → World → Prop} (J : Nat → Act → World → Prop) (round : ∀ n a w, J n a w → c.wp P (Exit.then (fun a' w' => ∃ m, m < n ∧ J m a' w') Q) a w) :
    ∀ (n : Nat) (a : Act) (w : World), J n a w → (Code.loop c).wp P Q a w := by
  intro n a w h b k cs
  have key : ∀ n a w, J n a w → ∃ e a' w', Q e a' w' ∧ Arrives P (lone (b.at a (.code c :: .inLoop c :: k)) cs w) b k cs e a' w' := by
    intro n
    induction n using Nat.strongRecOn with
    | _ n ih =>
      intro a w hJ
      obtain ⟨e, a1, w1, hq, harr⟩ := round n a w hJ b (.inLoop c :: k) cs
      cases e with
      | normal =>
        obtain ⟨m, hlt, hJ1⟩ := hq
        obtain ⟨e2, a2, w2, hq2, harr2⟩ := ih m hlt a1 w1 hJ1
        exact ⟨e2, a2, w2, hq2, .of_steps (Steps.trans harr (.one step_inLoop)) harr2⟩
      | exit id => exact ⟨_, a1, w1, hq, .pass (x := .inLoop c) rfl (fun _ _ => .inl (by simp)) harr⟩
      | goto l => exact ⟨_, a1, w1, hq, .pass (x := .inLoop c) rfl (fun _ _ => .inl (by simp)) harr⟩
      | ret => exact ⟨_, a1, w1, hq, .pass (x := .inLoop c) rfl (fun _ _ => .inl (by simp)) harr⟩
      | panic ch => exact ⟨_, a1, w1, hq, .pass (x := .inLoop c) rfl (fun _ _ => .inl (by simp)) harr⟩
      | outgrown => exact ⟨_, a1, w1, hq, .pass (x := .inLoop c) rfl (fun _ _ => .inl (by simp)) harr⟩
  obtain ⟨e, a', w', hq, harr⟩ := key n a w h
  exact ⟨e, a', w', hq, .of_steps (.one step_loop) harr⟩

theorem hwp_sound (hm : P.follows .mixedOrders = true) (lm : Bool) {N : Nat} : ∀ (c : Code) (hc : codeOk N c = true) (K : Kont) (M0 M : Mem) (e : Env) (s : Store) (a : Act) (w : World), MLe M0 M → Sim w0 M s w → EnvOk M a.tmps e → a.tmps.size = N → a.defers = [] →
    hwp P lm c K e s → c.wp P (hpost w0 N M0 K) a w := by
  intro c
  induction c with
  | skip => intro hc K M0 M e s a w hM hs he hN hd h; exact wp_skip ⟨M, e, s, hM, hs, he, hN, hd, h⟩
  | region id ops draw =>
    intro hc K M0 M e s a w hM hs he hN hd h
    have hok : ∀ o ∈ ops, operOk N o = true := by
      simp only [codeOk, List.all_eq_true] at hc
      exact fun o ho => hc o (by simpa using ho)
    cases draw with
    | false => exact wp_region_list (hops_sound lm hok M0 K _ (fun o ho => by simpa using ho) a w M e s hM hs he hN hd h)
    | true => exact wp_region_any hm (hdraw_sound lm hok M0 K a _ M e s hM (hs.drawn _) he hN hd h)
  | seq x y ihx ihy =>
    intro hc K M0 M e s a w hM hs he hN hd h
    simp only [codeOk, Bool.and_eq_true] at hc
    refine wp_seq (wp_mono (ihx hc.1 _ M0 M e s a w hM hs he hN hd h) ?_)
    intro ex a' w' hp
    cases ex <;> first
      | exact hp
      | (obtain ⟨M', e', s', h1, h2, h3, h4, h5, h6⟩ := hp; exact ihy hc.2 K M0 M' e' s' a' w' h1 h2 h3 h4 h5 h6)
  | cond c x y ihx ihy =>
    intro hc K M0 M e s a w hM hs he hN hd h
    simp only [codeOk, Bool.and_eq_true] at hc
    subst hN
    have hv := den_ev he hc.1.1
    simp only [hwp, hcond] at h
    split at h
    · rename_i t ht
      rw [ht] at hv
      have := den_lit_inv hv
      refine wp_cond_split this (fun e1 => ihx hc.1.2 K M0 M e s a w hM hs he rfl hd (h.1 e1)) (fun e1 => ihy hc.2 K M0 M e s a w hM hs he rfl hd (h.2 e1))
    · exact h.elim
  | block id c ih =>
    intro hc K M0 M e s a w hM hs he hN hd h
    refine wp_block (wp_mono (ih hc _ M0 M e s a w hM hs he hN hd h) ?_)
    intro ex a' w' hp
    cases ex with
    | exit id' =>
      simp only [Exit.inBlock]
      obtain ⟨M', e', s', h1, h2, h3, h4, h5, h6⟩ := hp
      split
      · rename_i hid
        simp only [if_pos hid] at h6
        exact ⟨M', e', s', h1, h2, h3, h4, h5, h6⟩
      · rename_i hid
        simp only [if_neg hid] at h6
        exact ⟨M', e', s', h1, h2, h3, h4, h5, h6⟩
    | _ => exact hp
  | loop c ih =>
    intro hc K M0 M e s a w hM hs he hN hd h
    obtain ⟨I, ⟨n, s', hss, hI⟩, round⟩ := h
    refine wp_loopN (fun n a w => ∃ M' e s, MLe M0 M' ∧ Sim w0 M' s w ∧ EnvOk M' a.tmps e ∧ a.tmps.size = N ∧ a.defers = [] ∧ I n e s) ?_ n a w ⟨M, e, s', hM, hs.drop hss, he, hN, hd, hI⟩
    rintro n a w ⟨M', e, s, h1, h2, h3, h4, h5, h6⟩
    refine wp_mono (ih hc _ M0 M' e s a w h1 h2 h3 h4 h5 (round n e s h6)) ?_
    intro ex a' w' hp
    cases ex with
    | normal =>
      obtain ⟨M2, e2, s2, g1, g2, g3, g4, g5, m, s3, g6, g7, g8⟩ := hp
      exact ⟨m, g6, M2, e2, s3, g1, g2.drop g7, g3, g4, g5, g8⟩
    | _ => exact hp
  | exit id => intro hc K M0 M e s a w hM hs he hN hd h; exact wp_exit ⟨M, e, s, hM, hs, he, hN, hd, h⟩
  | ret => intro hc K M0 M e s a w hM hs he hN hd h; exact wp_ret ⟨M, e, s, hM, hs, he, hN, hd, h⟩
  | _ => intros; rename_i h; exact h.elim

/-! ### A function -/
def initEnv (ds : List D) : Env := fun t => ds.getD t (.lit undef)
def hres (P : Program) : List ResultVar → Env → Store → (List D → Prop) → Prop
  | [], _, _, K => K []
  | .tmp t :: r, e, s, K => hres P r e s fun ds => K (e t :: ds)
  | .cell a t :: r, e, s, K => wtx P t fun X => hload X.T (e a) s fun d => hres P r e s fun ds => K (d :: ds)
def tupD (ds : List D) : D := match ds with
  | [d] => d
  | ds => .tup ds
def resOk (N : Nat) : ResultVar → Bool
  | .tmp t => decide (t < N)
  | .cell a _ => decide (a < N)
def retK (P : Program) (fn : Func) (Q : D → Store → Prop) : Kont :=
  { n := fun e s => hres P fn.results.toList e s fun ds => ∃ s', SLe s' s ∧ Q (tupD ds) s'
    r := fun e s => hres P fn.results.toList e s fun ds => ∃ s', SLe s' s ∧ Q (tupD ds) s'
    x := fun _ _ _ => False }

def resOne (tmps : Array Value) : ResultVar → Sem Value
  | .tmp t => pure (tmps.getD t undef)
  | .cell a t => do loadVar t (← asAddr (tmps.getD a undef))

theorem load_pure (hs : Sim w0 M σ w) {t : TypeId} {T : TI} (hT : ti P t = some T) {v : Value} {d : D} (hv : Den M v d) {K : D → Prop} (hk : hload T d σ K) : ∃ u x, (Instr.loadAt t v).run P w = .ok u w ∧ Den M u x ∧ K x := by
  obtain ⟨i, dd, hi, hd, e1, e2, -, -, -⟩ := ti_some hT
  have core : ∀ (b o : Nat) (ds : List D), Holds M w b o ds → ds.length = T.size → (T.kk.agg = true ∨ T.size = 1) → K (valD T.kk.agg ds) → ∃ u x, (Instr.loadAt t (.pointer (some ⟨b, o, none⟩))).run P w = .ok u w ∧ Den M u x ∧ K x := by
    intro b o ds hh hl h1 hk
    by_cases ha : (kkOf dd).agg = true
    · obtain ⟨vs, hr, hs, hone, hden⟩ := hh.loadCells (P := P)
      have hv : valD T.kk.agg ds = .agg ds := by rw [e1]; simp [valD, ha]
      refine ⟨.agg vs, .agg ds, ?_, .agg vs ds hs hone hden, by rw [← hv]; exact hk⟩
      rw [hl, e2] at hr
      simp [Instr.loadAt, Instr.sureAddr, loadVar, run_isAgg hd, ha, run_sizeOf hi, hr]
    · have hf : (kkOf dd).agg = false := by simpa using ha
      obtain ⟨cv, hc⟩ := hh
      have hl1 : ds.length = 1 := by
        rcases h1 with h1 | h1
        · rw [e1, hf] at h1; cases h1
        · omega
      obtain ⟨h2, h3, h4⟩ := hc 0 (by omega)
      match ds, hl1 with
      | [x], _ =>
        have hv : valD T.kk.agg [x] = x := by rw [e1, hf]; rfl
        refine ⟨cv 0, x, ?_, h4 x rfl, by rw [← hv]; exact hk⟩
        simp only [Nat.add_zero] at h2
        simp [Instr.loadAt, Instr.sureAddr, loadVar, run_isAgg hd, hf, h2]
  unfold hload at hk
  split at hk
  · rename_i b o
    have := den_lit_inv hv; subst this
    split at hk
    · rename_i ds e
      obtain ⟨⟨h1, h2⟩, hk⟩ := hk
      have hh := ((holds_cells hs e).drop o).take T.size
      rw [Nat.zero_add] at hh
      exact core b o _ hh (by simp; omega) h2 hk
    · exact hk.elim
  · rename_i ds
    obtain ⟨b, o, rfl, hh⟩ := holds_iptr hs hv
    obtain ⟨⟨h1, h2⟩, hk⟩ := hk
    exact core b o _ (hh.take T.size) (by simp; omega) h2 hk
  · exact hk.elim

theorem hres_sound (hs : Sim w0 M σ w) {tmps : Array Value} {e : Env} (he : EnvOk M tmps e) : ∀ (rs : List ResultVar) (hok : ∀ r ∈ rs, resOk tmps.size r = true) (K : List D → Prop), hres P rs e σ K →
    ∃ vs ds, (rs.mapM (resOne tmps)).run P w = .ok vs w ∧ vs.length = ds.length ∧ (∀ (i : Nat) (d : D), ds[i]? = some d → Den M (vs.getD i undef) d) ∧ K ds := by
  intro rs
  induction rs with
  | nil => intro hok K h; exact ⟨[], [], by simp, rfl, by simp, h⟩
  | cons r rs ih =>
    intro hok K h
    have h1 : ∃ v d, (resOne tmps r).run P w = .ok v w ∧ Den M v d ∧ hres P rs e σ fun ds => K (d :: ds) := by
      cases r with
      | tmp t => exact ⟨_, _, rfl, he t (by simpa [resOk] using hok (.tmp t) (by simp)), h⟩
      | cell a t =>
        obtain ⟨X, hX, hk⟩ := wtx_inv h
        have ha := he a (by simpa [resOk] using hok (.cell a t) (by simp))
        obtain ⟨u, x, r1, r2, r3⟩ := load_pure (P := P) hs (tx_some hX).1 ha hk
        refine ⟨u, x, ?_, r2, r3⟩
        have : ∃ ad, tmps.getD a undef = .pointer (some ad) := by
          unfold hload at hk
          split at hk
          · rename_i e1; rw [e1] at ha; exact ⟨_, den_lit_inv ha⟩
          · rename_i e1; rw [e1] at ha
            obtain ⟨b, o, hv, -⟩ := holds_iptr hs ha
            exact ⟨_, hv⟩
          · exact hk.elim
        obtain ⟨ad, hv⟩ := this
        rw [hv] at r1
        simpa [resOne, hv, asAddr, Instr.loadAt, Instr.sureAddr] using r1
    obtain ⟨v, d, r1, r2, r3⟩ := h1
    obtain ⟨vs, ds, q1, q2, q3, q4⟩ := ih (fun r hr => hok r (by simp [hr])) _ r3
    refine ⟨v :: vs, d :: ds, ?_, by simp [q2], fun i x hx => ?_, q4⟩
    · simp [List.mapM_cons, r1, q1]
    · cases i with
      | zero => simp at hx; subst hx; simpa using r2
      | succ i => simp at hx; simpa using q3 i x hx

theorem results_list (fn : Func) (tmps : Array Value) (w : World) (vs : List Value) (h : (fn.results.toList.mapM (resOne tmps)).run P w = .ok vs w) : (results fn tmps).run P w = .ok (match vs with | [v] => v | vs => .tuple vs.toArray) w := by
  have h2 : (fn.results.mapM (resOne tmps)).run P w = .ok vs.toArray w := by
    rw [Array.mapM_eq_mapM_toList, Sem.run_map, h]; rfl
  have h3 : results fn tmps = (do let vs ← fn.results.mapM (resOne tmps); pure (if h : vs.size = 1 then vs[0] else .tuple vs)) := by
    unfold results
    congr 1
  rw [h3]
  simp only [Sem.run_bind, h2, Result.andThen_ok, Sem.run_pure]
  match vs with
  | [] => simp
  | [v] => simp
  | v :: u :: vs => simp

theorem HCalls.of_body (hm : P.follows .mixedOrders = true) (lm : Bool) {f : FuncId} {fn : Func} {c : Code} (hf : P.funcs[f]? = some fn) (hb : fn.body = some c) (hc : codeOk fn.ntmps c = true) (hr : fn.results.toList.all (resOk fn.ntmps) = true) {ds : List D} (hds : ds.length ≤ fn.ntmps) {Q : D → Store → Prop}
    (h : hwp P lm c (retK P fn Q) (initEnv ds) σ) : HCalls P f ds σ Q := by
  intro w0 M w vs hs hl hd
  have hsz : (vs ++ Array.replicate (fn.ntmps - vs.size) undef).size = fn.ntmps := by simp; omega
  have henv : EnvOk M (vs ++ Array.replicate (fn.ntmps - vs.size) undef) (initEnv ds) := by
    intro t ht
    simp only [Array.getD_eq_getD_getElem?, Array.getElem?_append, initEnv]
    by_cases h1 : t < vs.size
    · rw [if_pos h1]
      have := hd t (ds[t]'(by omega)) (List.getElem?_eq_getElem (by omega))
      rw [Array.getD_eq_getD_getElem?] at this
      simpa [List.getD_eq_getElem?_getD, show t < ds.length by omega] using this
    · rw [if_neg h1]
      have : (Array.replicate (fn.ntmps - vs.size) undef)[t - vs.size]?.getD undef = undef := by
        rw [Array.getElem?_replicate]; split <;> rfl
      rw [this]
      simp [List.getD_eq_getElem?_getD, show ds.length ≤ t by omega]
      exact .lit _
  refine calls_of_wp hf hb (wp_mono (hwp_sound hm lm c (by rw [← hsz] at hc; exact hc) _ M M _ _ _ w (MLe.refl M) hs henv rfl rfl h) ?_)
  intro ex a w' hp
  have fin : (∃ M' e s, MLe M M' ∧ Sim w0 M' s w' ∧ EnvOk M' a.tmps e ∧ a.tmps.size = (vs ++ Array.replicate (fn.ntmps - vs.size) undef).size ∧ a.defers = [] ∧ hres P fn.results.toList e s fun ds => ∃ s', SLe s' s ∧ Q (tupD ds) s') →
      a.defers = [] ∧ ∃ v, (results fn a.tmps).run P w' = .ok v w' ∧ ∃ u M' d σ', Ending.returned v = .returned u ∧ MLe M M' ∧ Sim w0 M' σ' w' ∧ Den M' u d ∧ Q d σ' := by
    rintro ⟨M', e, s, h1, h2, h3, h4, h5, h6⟩
    refine ⟨h5, ?_⟩
    rw [hsz] at h4
    obtain ⟨us, xs, q1, q2, q3, s', q4, q5⟩ := hres_sound h2 h3 fn.results.toList (by rw [h4]; exact List.all_eq_true.1 hr) _ h6
    refine ⟨_, results_list fn a.tmps w' us q1, _, M', _, s', rfl, h1, h2.drop q4, ?_, q5⟩
    match us, xs, q2 with
    | [], [], _ => exact .tup _ _ rfl (by simp)
    | [u], [x], _ => exact q3 0 x rfl
    | u :: u2 :: us, x :: x2 :: xs, q2 => exact .tup _ _ (by simpa using q2) (fun i d hi => by have := q3 i d hi; simpa [Array.getD_eq_getD_getElem?, List.getD_eq_getElem?_getD] using this)
  cases ex with
  | normal => exact fin hp
  | ret => exact fin hp
  | exit id => obtain ⟨M', e, s, -, -, -, -, -, h6⟩ := hp; exact h6.elim
  | _ => exact hp.elim
end Go.HL
/- HL, part M: the rewriting by which a function's code is told. -/
set_option linter.unusedVariables false
set_option linter.unusedSimpArgs false
namespace Go.HL
open Go.RowKit
variable {P : Program} {lm : Bool}



/-- What rewriting shall not go into. -/
class Box (α : Sort _) where
  un : α
def bx {α : Sort _} [B : Box α] : α := B.un
@[simp ↓] theorem bx_app {α β : Sort _} (K : α → β) (a : α) : (@bx (α → β) ⟨K⟩) a = K a := (rfl)
@[simp ↓] theorem bx_n (K : Kont) : (@bx Kont ⟨K⟩).n = K.n := (rfl)
@[simp ↓] theorem bx_r (K : Kont) : (@bx Kont ⟨K⟩).r = K.r := (rfl)
@[simp ↓] theorem bx_x (K : Kont) : (@bx Kont ⟨K⟩).x = K.x := (rfl)
theorem upd_at (e : Env) (t : Nat) (d : D) (s : Nat) : upd e t d s = if s = t then d else e s := rfl
@[simp] theorem upd_same (e : Env) (t : Nat) (d : D) : upd e t d t = d := by simp [upd]
@[simp] theorem upd_ne (e : Env) (t : Nat) (d : D) (s : Nat) (h : (s == t) = false) : upd e t d s = e s := by simp at h; simp [upd, h]
@[simp] theorem updo_some (e : Env) (t : Nat) (d : D) : updo e (some t) d = upd e t d := (rfl)
@[simp] theorem updo_none (e : Env) (d : D) : updo e none d = e := (rfl)
@[simp] theorem init_zero (d : D) (ds : List D) : initEnv (d :: ds) 0 = d := (rfl)
@[simp] theorem init_succ (d : D) (ds : List D) (n : Nat) : initEnv (d :: ds) (n + 1) = initEnv ds n := (rfl)
@[simp ↓] theorem ev_tmp (e : Env) (t : Nat) : ev e (.tmp t) = e t := (rfl)
@[simp ↓] theorem ev_int (e : Env) (k : IntKind) (n : Int) : ev e (.const (.int k n)) = .lit (.int k n) := (rfl)
@[simp ↓] theorem ev_bool (e : Env) (b : Bool) : ev e (.const (.bool b)) = .lit (.bool b) := (rfl)
@[simp ↓] theorem ev_str (e : Env) (b : ByteArray) : ev e (.const (.string b)) = .lit (.string b) := (rfl)
@[simp ↓] theorem ev_slice (e : Env) : ev e (.const (.slice none 0 0)) = .list [] .nil := (rfl)
@[simp ↓] theorem ev_nilIface (e : Env) : ev e (.const .nilIface) = .lit .nilIface := (rfl)
@[simp ↓] theorem ev_nilFunc (e : Env) : ev e (.const .nilFunc) = .lit .nilFunc := (rfl)
@[simp ↓] theorem ev_map (e : Env) (m : Option Nat) : ev e (.const (.map m)) = .lit (.map m) := (rfl)
@[simp ↓] theorem ev_ptr (e : Env) (m : Option Addr) : ev e (.const (.pointer m)) = .lit (.pointer m) := (rfl)
@[simp ↓] theorem ev_agg (e : Env) (cs : Array Value) : ev e (.const (.agg cs)) = zD (.agg cs) := (rfl)
@[simp ↓] theorem ev_global (e : Env) (g : Nat) : ev e (.global g) = .ptr g 0 := (rfl)
@[simp ↓] theorem ev_func (e : Env) (f : FuncId) : ev e (.func f) = .lit (.func (.func f) #[] #[]) := (rfl)

/-! ### Control -/
@[simp ↓] theorem hwp_seq (a b : Code) (K : Kont) (e : Env) (s : Store) : hwp P lm (.seq a b) K e s = hwp P lm a (@bx _ ⟨{ K with n := fun e s => hwp P lm b K e s }⟩) e s := (rfl)
@[simp ↓] theorem hwp_skip (K : Kont) (e : Env) (s : Store) : hwp P lm .skip K e s = K.n e s := (rfl)
@[simp ↓] theorem hwp_ret (K : Kont) (e : Env) (s : Store) : hwp P lm .ret K e s = K.r e s := (rfl)
@[simp ↓] theorem hwp_exit (i : Nat) (K : Kont) (e : Env) (s : Store) : hwp P lm (.exit i) K e s = K.x i e s := (rfl)
@[simp ↓] theorem hwp_block (i : Nat) (c : Code) (K : Kont) (e : Env) (s : Store) : hwp P lm (.block i c) K e s = hwp P lm c (@bx _ ⟨{ K with x := fun j e s => if j = i then K.n e s else K.x j e s }⟩) e s := (rfl)
@[simp ↓] theorem hwp_cond (c : Operand) (a b : Code) (K : Kont) (e : Env) (s : Store) : hwp P lm (.cond c a b) K e s = hcond (ev e c) (@bx _ ⟨hwp P lm a K e s⟩) (@bx _ ⟨hwp P lm b K e s⟩) := (rfl)
@[simp ↓] theorem hwp_region (i : Nat) (ops : List Oper) (K : Kont) (e : Env) (s : Store) : hwp P lm (.region i ⟨ops⟩ false) K e s = hops P lm (@bx _ ⟨ops⟩) (@bx _ ⟨ops⟩) e s (@bx _ ⟨K.n⟩) := (rfl)
@[simp ↓] theorem hwp_draw (i : Nat) (ops : Array Oper) (K : Kont) (e : Env) (s : Store) : hwp P lm (.region i ops true) K e s = hdraw P lm (@bx _ ⟨ops⟩) e s (@bx _ ⟨K.n⟩) := (rfl)
@[simp ↓] theorem hwp_loop (c : Code) (K : Kont) (e : Env) (s : Store) : hwp P lm (.loop c) K e s = hloop (@bx _ ⟨hwp P lm c⟩) (@bx _ ⟨K⟩) e s := (rfl)
@[simp] theorem hcond_true (A B : Prop) : hcond (.lit (.bool true)) (@bx _ ⟨A⟩) (@bx _ ⟨B⟩) = A := by simp [hcond, bx]
@[simp] theorem hcond_false (A B : Prop) : hcond (.lit (.bool false)) (@bx _ ⟨A⟩) (@bx _ ⟨B⟩) = B := by simp [hcond, bx]
@[simp low] theorem hcond_bool (t : Bool) (A B : Prop) : hcond (.lit (.bool t)) (@bx _ ⟨A⟩) (@bx _ ⟨B⟩) = ((t = true → A) ∧ (t = false → B)) := (rfl)
@[simp] theorem hops_nil (all : List Oper) (e : Env) (s : Store) (N : Env → Store → Prop) : hops P lm (@bx _ ⟨all⟩) (@bx _ ⟨[]⟩) e s N = N e s := (rfl)
@[simp] theorem hops_cons (all : List Oper) (d : Option Tmp) (op : Op) (ty : TypeId) (pos : String) (af : Array Edge) (r : List Oper) (e : Env) (s : Store) (N : Env → Store → Prop) :
    hops P lm (@bx _ ⟨all⟩) (@bx _ ⟨{ dst := d, op := op, type := ty, pos := pos, after := af, guard := none } :: r⟩) e s N = hop P lm op e s (@bx _ ⟨fun v s' => hops P lm (@bx _ ⟨all⟩) (@bx _ ⟨r⟩) (updo e d v) s' N⟩) := (rfl)
/-- A guard, as its place says. -/
def dstAt : List Oper → Nat → Option Tmp
  | [], _ => none
  | o :: _, 0 => o.dst
  | _ :: r, n + 1 => dstAt r n
@[simp ↓] theorem dstAt_zero (d : Option Tmp) (op : Op) (ty : TypeId) (pos : String) (af : Array Edge) (g : Option (Nat × Bool)) (r : List Oper) : dstAt ({ dst := d, op := op, type := ty, pos := pos, after := af, guard := g } :: r) 0 = d := (rfl)
@[simp ↓] theorem dstAt_succ (o : Oper) (r : List Oper) (n : Nat) : dstAt (o :: r) (n + 1) = dstAt r n := (rfl)
theorem dstAt_eq (l : List Oper) (j : Nat) : (l[j]?).bind (·.dst) = dstAt l j := by
  induction l generalizing j with
  | nil => simp [dstAt]
  | cons o r ih => cases j with
    | zero => simp [dstAt]
    | succ n => simpa [dstAt] using ih n
def hgd (d : D) (want : Bool) (run skip : Prop) : Prop := match d with
  | .lit (.bool b) => if want then (b = true → run) ∧ (b = false → skip) else (b = false → run) ∧ (b = true → skip)
  | .lit (.tuple _) => skip
  | _ => False
@[simp] theorem hgd_tt (A B : Prop) : hgd (.lit (.bool true)) true (@bx _ ⟨A⟩) (@bx _ ⟨B⟩) = A := by simp [hgd, bx]
@[simp] theorem hgd_tf (A B : Prop) : hgd (.lit (.bool true)) false (@bx _ ⟨A⟩) (@bx _ ⟨B⟩) = B := by simp [hgd, bx]
@[simp] theorem hgd_ft (A B : Prop) : hgd (.lit (.bool false)) true (@bx _ ⟨A⟩) (@bx _ ⟨B⟩) = B := by simp [hgd, bx]
@[simp] theorem hgd_ff (A B : Prop) : hgd (.lit (.bool false)) false (@bx _ ⟨A⟩) (@bx _ ⟨B⟩) = A := by simp [hgd, bx]
@[simp low] theorem hgd_t (b : Bool) (A B : Prop) : hgd (.lit (.bool b)) true (@bx _ ⟨A⟩) (@bx _ ⟨B⟩) = ((b = true → A) ∧ (b = false → B)) := by simp [hgd, bx]
@[simp low] theorem hgd_f (b : Bool) (A B : Prop) : hgd (.lit (.bool b)) false (@bx _ ⟨A⟩) (@bx _ ⟨B⟩) = ((b = false → A) ∧ (b = true → B)) := by simp [hgd, bx]
@[simp] theorem hgd_u (v : Array Value) (w : Bool) (A B : Prop) : hgd (.lit (.tuple v)) w (@bx _ ⟨A⟩) (@bx _ ⟨B⟩) = B := by simp [hgd, bx]
def hgo (t : Option Tmp) (e : Env) (want : Bool) (run skip : Prop) : Prop := match t with
  | none => skip
  | some t => hgd (e t) want run skip
@[simp] theorem hgo_some (t : Nat) (e : Env) (w : Bool) (A B : Prop) : hgo (some t) e w A B = hgd (e t) w A B := (rfl)
@[simp] theorem hops_guard (all : List Oper) (d : Option Tmp) (op : Op) (ty : TypeId) (pos : String) (af : Array Edge) (r : List Oper) (e : Env) (s : Store) (N : Env → Store → Prop) (j : Nat) (want : Bool) :
    hops P lm (@bx _ ⟨all⟩) (@bx _ ⟨{ dst := d, op := op, type := ty, pos := pos, after := af, guard := some (j, want) } :: r⟩) e s N =
      hgo (dstAt all j) e want (@bx _ ⟨hop P lm op e s (@bx _ ⟨fun v s' => hops P lm (@bx _ ⟨all⟩) (@bx _ ⟨r⟩) (updo e d v) s' N⟩)⟩) (@bx _ ⟨hops P lm (@bx _ ⟨all⟩) (@bx _ ⟨r⟩) (updo e d (.lit undef)) s N⟩) := by
  simp only [hops, guardD, dstAt_eq, hgo, bx]
  cases dstAt all j with
  | none => rfl
  | some t => first | (simp only [hgd]; done) | (simp only [hgd]; rfl)

/-! ### Operations -/
@[simp ↓] theorem hop_move (x : Operand) (e : Env) (s : Store) (K : D → Store → Prop) : hop P lm (.move x) e s K = K (ev e x) s := (rfl)
@[simp ↓] theorem hop_assign (x : Operand) (e : Env) (s : Store) (K : D → Store → Prop) : hop P lm (.assign x) e s K = K (ev e x) s := (rfl)
@[simp ↓] theorem hop_pick (c a b : Operand) (e : Env) (s : Store) (K : D → Store → Prop) : hop P lm (.pick c a b) e s K = hcond (ev e c) (@bx _ ⟨K (ev e a) s⟩) (@bx _ ⟨K (ev e b) s⟩) := (rfl)
/-- A new block. -/
def hnew (s : Store) (o : HObj) (f : Nat → Store → Prop) : Prop := ∀ b, s b = none → f b (s.set b o)
@[simp] theorem hnew_def (s : Store) (o : HObj) (f : Nat → Store → Prop) : hnew s o f = ∀ b, s b = none → f b (s.set b o) := (rfl)
def hzero (z : Option (List D)) (K : List D → Prop) : Prop := match z with
  | some zs => K zs
  | none => False
@[simp] theorem hzero_some (z : List D) (K : List D → Prop) : hzero (some z) K = K z := (rfl)
@[simp ↓] theorem hop_alloc (t : TypeId) (e : Env) (s : Store) (K : D → Store → Prop) : hop P lm (.alloc t) e s K = wtx P t (@bx _ ⟨fun X => X.zf = true ∧ hzero X.T.zero (@bx _ ⟨fun zs => hnew s (.cells zs) (@bx _ ⟨fun b s' => K (.ptr b 0) s'⟩)⟩)⟩) := by
  simp only [hop, hzero, bx]
  congr 1
@[simp ↓] theorem hop_box (t : TypeId) (x : Operand) (e : Env) (s : Store) (K : D → Store → Prop) : hop P lm (.box t x) e s K = (fitD (ev e x) = true ∧ hnew s (.cells (cellsD (ev e x))) (@bx _ ⟨fun b s' => K (.ptr b 0) s'⟩)) := (rfl)
def partsE (e : Env) : List (Nat × Operand) → List (Nat × D)
  | [] => []
  | (i, x) :: r => (i, ev e x) :: partsE e r
theorem partsE_eq (e : Env) (l : List (Nat × Operand)) : l.map (fun p => (p.1, ev e p.2)) = partsE e l := by
  induction l with
  | nil => rfl
  | cons p r ih => simp [partsE, ih]
@[simp] theorem partsE_nil (e : Env) : partsE e [] = [] := (rfl)
@[simp] theorem partsE_cons (e : Env) (i : Nat) (x : Operand) (r : List (Nat × Operand)) : partsE e ((i, x) :: r) = (i, ev e x) :: partsE e r := (rfl)
def evs (e : Env) : List Operand → List D
  | [] => []
  | x :: r => ev e x :: evs e r
theorem evs_eq (e : Env) (l : List Operand) : l.map (ev e) = evs e l := by
  induction l with
  | nil => rfl
  | cons p r ih => simp [evs, ih]
@[simp] theorem evs_nil (e : Env) : evs e [] = [] := (rfl)
@[simp] theorem evs_cons (e : Env) (x : Operand) (r : List Operand) : evs e (x :: r) = ev e x :: evs e r := (rfl)
@[simp ↓] theorem hop_build (t : TypeId) (parts : List (Nat × Operand)) (e : Env) (s : Store) (K : D → Store → Prop) : hop P lm (.build t ⟨parts⟩) e s K = wtx P t (@bx _ ⟨fun X => (X.zf = true ∧ X.fk = true) ∧ hbuild X.T (partsE e parts) (@bx _ ⟨(K · s)⟩)⟩) := by simp only [hop, partsE_eq, bx]
@[simp ↓] theorem hop_buildSlice (t : TypeId) (n : Nat) (parts : List (Nat × Operand)) (e : Env) (s : Store) (K : D → Store → Prop) : hop P lm (.buildSlice t n ⟨parts⟩) e s K = wtx P t (@bx _ ⟨fun X => wel P X.T (@bx _ ⟨fun E => E.zf = true ∧ hbuildSlice lm E.T n (partsE e parts) s K⟩)⟩) := by simp only [hop, partsE_eq, bx]
@[simp ↓] theorem hop_load (t : TypeId) (a : Operand) (e : Env) (s : Store) (K : D → Store → Prop) : hop P lm (.load t a) e s K = wtx P t (@bx _ ⟨fun X => hload X.T (ev e a) s (@bx _ ⟨(K · s)⟩)⟩) := (rfl)
@[simp ↓] theorem hop_store (t : TypeId) (a x : Operand) (e : Env) (s : Store) (K : D → Store → Prop) : hop P lm (.store t a x) e s K = wtx P t (@bx _ ⟨fun X => hstore X.T (ev e a) (ev e x) s (@bx _ ⟨K (.lit undef)⟩)⟩) := (rfl)
@[simp ↓] theorem hop_nilCheck (x : Operand) (e : Env) (s : Store) (K : D → Store → Prop) : hop P lm (.nilCheck x) e s K = hnil (ev e x) (@bx _ ⟨(K · s)⟩) := (rfl)
@[simp ↓] theorem hop_binOp (op : BinOp) (t u : TypeId) (x y : Operand) (e : Env) (s : Store) (K : D → Store → Prop) : hop P lm (.binOp op t x y u) e s K = wtx P t (@bx _ ⟨fun X => hbin P op t X.T (isC x || isC y) (ev e x) (ev e y) (@bx _ ⟨(K · s)⟩)⟩) := (rfl)
@[simp ↓] theorem hop_unOp (op : UnOp) (t : TypeId) (x : Operand) (e : Env) (s : Store) (K : D → Store → Prop) : hop P lm (.unOp op t x) e s K = hun op (ev e x) (@bx _ ⟨(K · s)⟩) := (rfl)
@[simp ↓] theorem hop_convert (a b : TypeId) (x : Operand) (e : Env) (s : Store) (K : D → Store → Prop) : hop P lm (.convert a b x) e s K = wtx P a (@bx _ ⟨fun S => wtx P b (@bx _ ⟨fun X => (SizedAs (ev e x) 1 ∧ ∀ y, ev e x = .str y → y.size ≤ 9223372036854775807) ∧ hconv P S.T X.T (ev e x) (@bx _ ⟨(K · s)⟩)⟩)⟩) := (rfl)
@[simp ↓] theorem hop_iface (t : TypeId) (x : Operand) (e : Env) (s : Store) (K : D → Store → Prop) : hop P lm (.makeInterface t x) e s K = wtx P t (@bx _ ⟨fun X => hiface X.T t (ev e x) (@bx _ ⟨(K · s)⟩)⟩) := (rfl)
def hfun (fn : Fn) (a b : Option (List Value)) (K : D → Prop) : Prop := match a, b with
  | some f, some c => K (.lit (.func fn f.toArray c.toArray))
  | _, _ => False
@[simp] theorem hfun_some (fn : Fn) (f c : List Value) (K : D → Prop) : hfun fn (some f) (some c) K = K (.lit (.func fn f.toArray c.toArray)) := (rfl)
@[simp ↓] theorem hop_makeFunc (fn : Fn) (a b : List Operand) (e : Env) (s : Store) (K : D → Store → Prop) : hop P lm (.makeFunc fn ⟨a⟩ ⟨b⟩) e s K = hfun fn (litsOf (evs e a)) (litsOf (evs e b)) (@bx _ ⟨(K · s)⟩) := by
  simp only [hop, evs_eq, hfun, bx]; rfl
@[simp ↓] theorem hop_makeMap (t : TypeId) (e : Env) (s : Store) (K : D → Store → Prop) : hop P lm (.makeMap t none) e s K = hnew s (.hmap []) (@bx _ ⟨fun b s' => K (.lit (.map (some b))) s'⟩) := (rfl)
@[simp ↓] theorem hop_makeSlice (t : TypeId) (l c : Operand) (e : Env) (s : Store) (K : D → Store → Prop) : hop P lm (.makeSlice t l c) e s K = wtx P t (@bx _ ⟨fun X => wel P X.T (@bx _ ⟨fun E => E.zf = true ∧ hmake X.T E.T (ev e l) (ev e c) s K⟩)⟩) := (rfl)
def isLitStr (d : D) : Prop := match d with
  | .lit (.string _) => True
  | _ => False
def hsl (P : Program) (k : KK) (d : D) (lo hi : Option D) (K : D → Prop) : Prop := match k with
  | .str => isLitStr d ∧ hslice 0 d lo hi K
  | .slice e => wtx P e fun E => (SizedAs d E.T.size ∧ capOk d = true) ∧ hslice E.T.size d lo hi K
  | _ => False
@[simp ↓] theorem hop_slice (t : TypeId) (x : Operand) (lo hi : Option Operand) (e : Env) (s : Store) (K : D → Store → Prop) : hop P lm (.slice t x lo hi none) e s K = wtx P t (@bx _ ⟨fun X => hsl P X.T.kk (ev e x) (lo.map (ev e)) (hi.map (ev e)) (@bx _ ⟨(K · s)⟩)⟩) := (rfl)
def hsl3 (P : Program) (k : KK) (d : D) (lo : Option D) (hi mx : D) (K : D → Prop) : Prop := match k with
  | .slice e => wtx P e fun E => hslice3 E.T.size d lo hi mx K
  | _ => False
@[simp ↓] theorem hop_slice3 (t : TypeId) (x : Operand) (lo : Option Operand) (hi mx : Operand) (e : Env) (s : Store) (K : D → Store → Prop) : hop P lm (.slice t x lo (some hi) (some mx)) e s K = wtx P t (@bx _ ⟨fun X => hsl3 P X.T.kk (ev e x) (lo.map (ev e)) (ev e hi) (ev e mx) (@bx _ ⟨(K · s)⟩)⟩) := (rfl)
@[simp] theorem hsl3_slice (t : TypeId) (d : D) (lo : Option D) (hi mx : D) (K : D → Prop) : hsl3 P (.slice t) d lo hi mx K = wtx P t (@bx _ ⟨fun E => hslice3 E.T.size d lo hi mx K⟩) := (rfl)
@[simp] theorem hslice3_lit (E b o n c : Nat) (k1 k2 k3 : IntKind) (l h m : Int) (K : D → Prop) : hslice3 E (.lit (.slice (some ⟨b, o, none⟩) n c)) (some (.lit (.int k1 l))) (.lit (.int k2 h)) (.lit (.int k3 m)) K = ((0 ≤ l ∧ l ≤ h ∧ h ≤ m ∧ m ≤ (c : Int)) ∧ K (.lit (.slice (some (if m.toNat = l.toNat then ⟨b, o, none⟩ else ⟨b, o + l.toNat * E, none⟩)) (h.toNat - l.toNat) (m.toNat - l.toNat)))) := (rfl)
@[simp] theorem hsl_str (d : D) (lo hi : Option D) (K : D → Prop) : hsl P .str d lo hi K = (isLitStr d ∧ hslice 0 d lo hi K) := (rfl)
@[simp] theorem hsl_slice (t : TypeId) (d : D) (lo hi : Option D) (K : D → Prop) : hsl P (.slice t) d lo hi K = wtx P t (@bx _ ⟨fun E => (SizedAs d E.T.size ∧ capOk d = true) ∧ hslice E.T.size d lo hi K⟩) := (rfl)
@[simp] theorem isLitStr_str (b : ByteArray) : isLitStr (.lit (.string b)) = True := (rfl)
@[simp ↓] theorem hop_fieldAddr (t : TypeId) (x : Operand) (f : Nat) (e : Env) (s : Store) (K : D → Store → Prop) : hop P lm (.fieldAddr t x f) e s K = wtx P t (@bx _ ⟨fun X => hfieldAddr X.T (ev e x) f (@bx _ ⟨(K · s)⟩)⟩) := (rfl)
@[simp ↓] theorem hop_field (t : TypeId) (x : Operand) (f : Nat) (e : Env) (s : Store) (K : D → Store → Prop) : hop P lm (.field t x f) e s K = wtx P t (@bx _ ⟨fun X => hfield X.T (ev e x) f (@bx _ ⟨(K · s)⟩)⟩) := (rfl)
@[simp ↓] theorem hop_indexAddr (t : TypeId) (x i : Operand) (e : Env) (s : Store) (K : D → Store → Prop) : hop P lm (.indexAddr t x i) e s K = wtx P t (@bx _ ⟨fun X => wel P X.T (@bx _ ⟨fun E => SizedAs (ev e x) E.T.size ∧ hindexAddr E.T.size (ev e x) (ev e i) (@bx _ ⟨(K · s)⟩)⟩)⟩) := (rfl)
@[simp ↓] theorem hop_index (t : TypeId) (x i : Operand) (e : Env) (s : Store) (K : D → Store → Prop) : hop P lm (.index t x i) e s K = wtx P t (@bx _ ⟨fun X => X.T.kk.isStr = true ∧ hindex (ev e x) (ev e i) (@bx _ ⟨(K · s)⟩)⟩) := (rfl)
@[simp ↓] theorem hop_lookup (t : TypeId) (x i : Operand) (ok : Bool) (e : Env) (s : Store) (K : D → Store → Prop) : hop P lm (.lookup t x i ok) e s K = wtx P t (@bx _ ⟨fun X => wtx P (mapElem X.T.kk) (@bx _ ⟨fun E => E.zo = true ∧ hlookup P X.T E.T (ev e x) (ev e i) ok s (@bx _ ⟨(K · s)⟩)⟩)⟩) := (rfl)
@[simp ↓] theorem hop_mapUpdate (t : TypeId) (m k v : Operand) (e : Env) (s : Store) (K : D → Store → Prop) : hop P lm (.mapUpdate t m k v) e s K = wtx P t (@bx _ ⟨fun X => hmapUpdate P X.T (ev e m) (ev e k) (ev e v) s (@bx _ ⟨K (.lit undef)⟩)⟩) := (rfl)
@[simp ↓] theorem hop_extract (x : Operand) (i : Nat) (e : Env) (s : Store) (K : D → Store → Prop) : hop P lm (.extract x i) e s K = hextract (ev e x) i (@bx _ ⟨(K · s)⟩) := (rfl)
@[simp ↓] theorem hop_builtin (b : Builtin) (args : List Operand) (ts : Array TypeId) (e : Env) (s : Store) (K : D → Store → Prop) : hop P lm (.call { callee := .builtin b, args := ⟨args⟩, argTypes := ts }) e s K = hbuiltin P lm b ts (evs e args) s K := by simp only [hop, evs_eq, bx]
/-- A call of what a word holds. -/
def hcall (P : Program) (f : D) (args : List D) (s : Store) (K : D → Store → Prop) : Prop := match f with
  | .lit (.func (.func g) first caps) =>
    if entersB P g then HCalls P g (first.toList.map .lit ++ args ++ caps.toList.map .lit) s K
    else HExt P g (first.toList.map .lit ++ args ++ caps.toList.map .lit) s K
  | _ => False
@[simp] theorem hcall_func (g : FuncId) (first caps : List Value) (args : List D) (s : Store) (K : D → Store → Prop) : hcall P (.lit (.func (.func g) ⟨first⟩ ⟨caps⟩)) args s K = if entersB P g = true then HCalls P g (first.map .lit ++ args ++ caps.map .lit) s K else HExt P g (first.map .lit ++ args ++ caps.map .lit) s K := (rfl)
@[simp ↓] theorem hop_call (f : Operand) (args : List Operand) (ts : Array TypeId) (e : Env) (s : Store) (K : D → Store → Prop) : hop P lm (.call { callee := .value f, args := ⟨args⟩, argTypes := ts }) e s K = hcall P (ev e f) (evs e args) s K := by
  simp only [hop, evs_eq]
  unfold hcall
  split <;> simp_all
end Go.HL
/- HL, part N: what each operation does, as rewriting. -/
set_option linter.unusedVariables false
set_option linter.unusedSimpArgs false
namespace Go.HL
open Go.RowKit
variable {P : Program} {lm : Bool}

attribute [simp] KK.agg KK.isPtr KK.isSlice KK.isIface KK.isBool KK.isStr KK.isU8 KK.bytes KK.mapKey mapElem isC isShift fitD oneD cellsD
section
@[simp] theorem one_bool (b : Bool) : (Value.bool b).oneCell' = true := (rfl)
@[simp] theorem one_int (k : IntKind) (i : Int) : (Value.int k i).oneCell' = true := (rfl)
@[simp] theorem one_str (s : ByteArray) : (Value.string s).oneCell' = true := (rfl)
@[simp] theorem one_slice (a : Option Addr) (n c : Nat) : (Value.slice a n c).oneCell' = true := (rfl)
@[simp] theorem one_ptr (a : Option Addr) : (Value.pointer a).oneCell' = true := (rfl)
@[simp] theorem one_map (a : Option Nat) : (Value.map a).oneCell' = true := (rfl)
@[simp] theorem one_iface (t : TypeId) (v : Value) : (Value.iface t v).oneCell' = true := (rfl)
@[simp] theorem one_nilIface : Value.nilIface.oneCell' = true := (rfl)
@[simp] theorem one_nilFunc : Value.nilFunc.oneCell' = true := (rfl)
@[simp] theorem one_func (f : Fn) (a b : Array Value) : (Value.func f a b).oneCell' = true := (rfl)
end
@[simp] theorem SizedAs_list (es : List (List D)) (tok : Tok) (n : Nat) : SizedAs (.list es tok) n = ∀ e ∈ es, e.length = n := (rfl)
@[simp] theorem SizedAs_lit (v : Value) (n : Nat) : SizedAs (.lit v) n = True := (rfl)
@[simp] theorem capOk_list (es : List (List D)) (tok : Tok) : capOk (.list es tok) = true := (rfl)
@[simp] theorem capOk_slice (a : Addr) (n c : Nat) : capOk (.lit (.slice (some a) n c)) = decide (n ≤ c) := (rfl)
theorem d_lit_inj (a b : Value) : (D.lit a = D.lit b) = (a = b) := by simp

theorem wtx_of {t : TypeId} {X : TX} (h : tx P t = some X) (g : TX → Prop) : wtx P t g = g X := by unfold wtx; rw [h]
/-! ### Stores -/
@[simp] theorem set_at (σ : Store) (b : Nat) (o : HObj) : (σ.set b o) b = some o := by simp [Store.set]
@[simp] theorem set_off (σ : Store) (b x : Nat) (o : HObj) (h : x ≠ b) : (σ.set b o) x = σ x := by simp [Store.set, h]
@[simp] theorem set_off' (σ : Store) (b x : Nat) (o : HObj) (h : b ≠ x) : (σ.set b o) x = σ x := by simp [Store.set, Ne.symm h]
@[simp] theorem set_old (σ : Store) (b x : Nat) (o : HObj) (h : σ b = none) (h2 : σ x ≠ none) : (σ.set b o) x = σ x := by
  have : x ≠ b := fun e => by subst e; exact h2 h
  simp [Store.set, this]
@[simp] theorem set_none (σ : Store) (b x : Nat) (o : HObj) : ((σ.set b o) x = none) = (x ≠ b ∧ σ x = none) := by
  unfold Store.set; by_cases h : x = b <;> simp [h]
@[simp] theorem set_twice (σ : Store) (b : Nat) (o o' : HObj) : (σ.set b o).set b o' = σ.set b o' := by funext x; simp only [Store.set]; split <;> rfl

/-! ### Types -/
@[simp] theorem wel_slice (e s b : Nat) (z : Option (List D)) (f : List (Nat × Nat × Bool)) (g : TX → Prop) : wel P ⟨.slice e, s, b, z, f⟩ g = wtx P e g := (rfl)
@[simp] theorem valD_agg (ds : List D) : valD true ds = .agg ds := (rfl)
@[simp] theorem valD_one (d : D) (ds : List D) : valD false (d :: ds) = d := (rfl)

/-! ### Memory -/
def loadC (T : TI) (o : Nat) (x : Option HObj) (K : D → Prop) : Prop := match x with
  | some (.cells ds) => (o + T.size ≤ ds.length ∧ (T.kk.agg = true ∨ T.size = 1)) ∧ K (valD T.kk.agg ((ds.drop o).take T.size))
  | _ => False
@[simp] theorem loadC_cells (T : TI) (o : Nat) (ds : List D) (K : D → Prop) : loadC T o (some (.cells ds)) K = ((o + T.size ≤ ds.length ∧ (T.kk.agg = true ∨ T.size = 1)) ∧ K (valD T.kk.agg ((ds.drop o).take T.size))) := (rfl)
@[simp] theorem hload_ptr (T : TI) (b o : Nat) (σ : Store) (K : D → Prop) : hload T (.lit (.pointer (some ⟨b, o, none⟩))) σ K = loadC T o (σ b) K := (rfl)
@[simp] theorem hload_iptr (T : TI) (ds : List D) (σ : Store) (K : D → Prop) : hload T (.iptr ds) σ K = ((T.size ≤ ds.length ∧ (T.kk.agg = true ∨ T.size = 1)) ∧ K (valD T.kk.agg (ds.take T.size))) := (rfl)
def storeC (T : TI) (b o : Nat) (x : D) (σ : Store) (c : Option HObj) (K : Store → Prop) : Prop := match c with
  | some (.cells ds) => (o + T.size ≤ ds.length ∧ fitD x = true ∧ (cellsD x).length = T.size) ∧ K (σ.set b (.cells (spl ds o (cellsD x))))
  | _ => False
@[simp] theorem storeC_cells (T : TI) (b o : Nat) (x : D) (σ : Store) (ds : List D) (K : Store → Prop) : storeC T b o x σ (some (.cells ds)) K = ((o + T.size ≤ ds.length ∧ fitD x = true ∧ (cellsD x).length = T.size) ∧ K (σ.set b (.cells (spl ds o (cellsD x))))) := (rfl)
@[simp] theorem hstore_ptr (T : TI) (b o : Nat) (x : D) (σ : Store) (K : Store → Prop) : hstore T (.lit (.pointer (some ⟨b, o, none⟩))) x σ K = storeC T b o x σ (σ b) K := (rfl)
@[simp] theorem spl_all (ds cs : List D) (h : ds.length = cs.length) : spl ds 0 cs = cs := by simp [spl, ← h]
@[simp] theorem spl_cons0 (d c : D) (ds cs : List D) : spl (d :: ds) 0 (c :: cs) = c :: spl ds 0 cs := by simp [spl, Nat.succ_add]
@[simp] theorem spl_nil (ds : List D) : spl ds 0 [] = ds := by simp [spl]
@[simp] theorem spl_succ (d : D) (ds cs : List D) (o : Nat) : spl (d :: ds) (o + 1) cs = d :: spl ds o cs := by simp [spl, Nat.succ_add]

/-! ### Arithmetic and comparison -/
@[simp] theorem hbin_int (op : BinOp) (t : TypeId) (T : TI) (c : Bool) (k k' : IntKind) (x y : Int) (K : D → Prop) : hbin P op t T c (.lit (.int k x)) (.lit (.int k' y)) K = if isShift op then shBin op k x y K else k = k' ∧ intBin op k x y K := (rfl)
@[simp] theorem hbin_str (op : BinOp) (t : TypeId) (T : TI) (c : Bool) (x y : ByteArray) (K : D → Prop) : hbin P op t T c (.lit (.string x)) (.lit (.string y)) K = strBin op x y K := (rfl)
@[simp] theorem hbin_bool (op : BinOp) (t : TypeId) (T : TI) (c : Bool) (x y : Bool) (K : D → Prop) : hbin P op t T c (.lit (.bool x)) (.lit (.bool y)) K = (T.kk.isBool = true ∧ eqBin op (decide (x = y)) K) := (rfl)
@[simp] theorem hbin_nn (op : BinOp) (t : TypeId) (T : TI) (c : Bool) (K : D → Prop) : hbin P op t T c (.lit .nilIface) (.lit .nilIface) K = ((T.kk.isIface = true ∧ c = true) ∧ eqBin op true K) := (rfl)
@[simp] theorem hbin_in (op : BinOp) (t : TypeId) (T : TI) (c : Bool) (u : TypeId) (v : Value) (K : D → Prop) : hbin P op t T c (.lit (.iface u v)) (.lit .nilIface) K = (T.kk.isIface = true ∧ eqBin op false K) := (rfl)
@[simp] theorem hbin_ni (op : BinOp) (t : TypeId) (T : TI) (c : Bool) (u : TypeId) (v : Value) (K : D → Prop) : hbin P op t T c (.lit .nilIface) (.lit (.iface u v)) K = (T.kk.isIface = true ∧ eqBin op false K) := (rfl)
@[simp] theorem hbin_ii (op : BinOp) (t : TypeId) (T : TI) (c : Bool) (t1 t2 : TypeId) (k k' : IntKind) (x y : Int) (K : D → Prop) : hbin P op t T c (.lit (.iface t1 (.int k x))) (.lit (.iface t2 (.int k' y))) K = ((T.kk.isIface = true ∧ t1 = t2 ∧ k = k' ∧ kindOf P t1 = .int k ∧ ((P.info? t1).map (·.comparable)) = some true) ∧ eqBin op (decide (x = y)) K) := (rfl)
@[simp] theorem hbin_pn (op : BinOp) (t : TypeId) (T : TI) (c : Bool) (K : D → Prop) : hbin P op t T c (.lit (.pointer none)) (.lit (.pointer none)) K = (T.kk.isPtr = true ∧ eqBin op true K) := (rfl)
@[simp] theorem hbin_ps (op : BinOp) (t : TypeId) (T : TI) (c : Bool) (a : Addr) (K : D → Prop) : hbin P op t T c (.lit (.pointer (some a))) (.lit (.pointer none)) K = (T.kk.isPtr = true ∧ eqBin op false K) := (rfl)
@[simp] theorem hbin_pi (op : BinOp) (t : TypeId) (T : TI) (c : Bool) (ds : List D) (K : D → Prop) : hbin P op t T c (.iptr ds) (.lit (.pointer none)) K = (T.kk.isPtr = true ∧ eqBin op false K) := (rfl)
@[simp] theorem hbin_ln (op : BinOp) (t : TypeId) (T : TI) (c : Bool) (es : List (List D)) (tok : Tok) (K : D → Prop) : hbin P op t T c (.list es tok) (.list [] .nil) K = (T.kk.isSlice = true ∧ ∀ r, (r = true → es = []) → (tok = .nil → r = true) → eqBin op r K) := (rfl)
def aggC (op : BinOp) (r : Option Bool) (K : D → Prop) : Prop := match r with
  | some r => eqBin op r K
  | none => False
@[simp] theorem aggC_some (op : BinOp) (r : Bool) (K : D → Prop) : aggC op (some r) K = eqBin op r K := (rfl)
@[simp] theorem hbin_agg (op : BinOp) (t : TypeId) (T : TI) (c : Bool) (xs ys : List D) (K : D → Prop) : hbin P op t T c (.agg xs) (.agg ys) K = aggC op ((eqKinds P t).bind (@bx _ ⟨fun ks => eqCells ks xs ys⟩)) K := (rfl)
attribute [simp] eqCells
@[simp ↓] theorem eqBin_eql (r : Bool) (K : D → Prop) : eqBin .eql r K = K (.bool r) := (rfl)
@[simp ↓] theorem eqBin_neq (r : Bool) (K : D → Prop) : eqBin .neq r K = K (.bool (!r)) := (rfl)
attribute [simp ↓] intBin strBin shBin
@[simp] theorem hun_not (b : Bool) (K : D → Prop) : hun .not (.lit (.bool b)) K = K (.bool (!b)) := (rfl)
@[simp] theorem hun_neg (k : IntKind) (n : Int) (K : D → Prop) : hun .neg (.lit (.int k n)) K = K (.int k (k.wrap (0 - n))) := (rfl)

/-! ### Strings, slices, parts -/
@[simp] theorem hlen_list (T : TI) (es : List (List D)) (tok : Tok) (σ : Store) (K : D → Prop) : hlen T (.list es tok) σ K = (T.kk.isSlice = true ∧ K (.int .i64 es.length)) := (rfl)
@[simp] theorem hlen_slice (T : TI) (a : Option Addr) (n c : Nat) (σ : Store) (K : D → Prop) : hlen T (.lit (.slice a n c)) σ K = (T.kk.isSlice = true ∧ K (.int .i64 n)) := (rfl)
@[simp] theorem hlen_str (T : TI) (s : ByteArray) (σ : Store) (K : D → Prop) : hlen T (.lit (.string s)) σ K = (T.kk.isStr = true ∧ K (.int .i64 s.size)) := (rfl)
@[simp] theorem hindex_str (s : ByteArray) (k : IntKind) (i : Int) (K : D → Prop) : hindex (.lit (.string s)) (.lit (.int k i)) K = ((0 ≤ i ∧ i < (s.size : Int)) ∧ K (.int .u8 ((s.get! i.toNat).toNat : Int))) := (rfl)
theorem hia_map {α : Type} (E : Nat) (l : List α) (f : α → List D) (tok : Tok) (k : IntKind) (i : Int) (K : D → Prop) : hindexAddr E (.list (l.map f) tok) (.lit (.int k i)) K = ((0 ≤ i ∧ i < (l.length : Int)) ∧ ∀ x, l[i.toNat]? = some x → K (.iptr (f x))) := by
  simp only [hindexAddr, List.length_map, eq_iff_iff]
  refine and_congr_right fun ⟨h0, h1⟩ => ?_
  have : i.toNat < l.length := by omega
  simp [List.getD_eq_getElem?_getD, this]
@[simp] theorem hia_list (E : Nat) (es : List (List D)) (tok : Tok) (k : IntKind) (i : Int) (K : D → Prop) : hindexAddr E (.list es tok) (.lit (.int k i)) K = ((0 ≤ i ∧ i < (es.length : Int)) ∧ K (.iptr (es.getD i.toNat []))) := (rfl)
attribute [simp high] hia_map
@[simp] theorem hia_slice (E : Nat) (b o n c : Nat) (k : IntKind) (i : Int) (K : D → Prop) : hindexAddr E (.lit (.slice (some ⟨b, o, none⟩) n c)) (.lit (.int k i)) K = ((0 ≤ i ∧ i < (n : Int)) ∧ K (.ptr b (o + i.toNat * E))) := (rfl)
def fldC (f : Option (Nat × Nat × Bool)) (k : Nat → Nat → Bool → Prop) : Prop := match f with
  | some (o, s, a) => k o s a
  | none => False
@[simp] theorem fldC_some (o s : Nat) (a : Bool) (k : Nat → Nat → Bool → Prop) : fldC (some (o, s, a)) k = k o s a := (rfl)
@[simp] theorem hfa_ptr (T : TI) (b o f : Nat) (K : D → Prop) : hfieldAddr T (.lit (.pointer (some ⟨b, o, none⟩))) f K = fldC T.flds[f]? (@bx _ ⟨fun off sz _ => sz ≠ 0 ∧ K (.ptr b (o + off))⟩) := by
  simp only [hfieldAddr, fldC, bx]
  rcases T.flds[f]? with _ | ⟨a, b, c⟩ <;> rfl
@[simp] theorem hfa_iptr (T : TI) (ds : List D) (f : Nat) (K : D → Prop) : hfieldAddr T (.iptr ds) f K = fldC T.flds[f]? (@bx _ ⟨fun off sz _ => sz ≠ 0 ∧ off ≤ ds.length ∧ K (.iptr (ds.drop off))⟩) := by
  simp only [hfieldAddr, fldC, bx]
  rcases T.flds[f]? with _ | ⟨a, b, c⟩ <;> rfl
@[simp] theorem hf_agg (T : TI) (ds : List D) (f : Nat) (K : D → Prop) : hfield T (.agg ds) f K = fldC T.flds[f]? (@bx _ ⟨fun off sz ag => (sz ≠ 0 ∧ off + sz ≤ ds.length ∧ (ag = true ∨ sz = 1)) ∧ K (valD ag ((ds.drop off).take sz))⟩) := by
  simp only [hfield, fldC, bx]
  rcases T.flds[f]? with _ | ⟨a, b, c⟩ <;> rfl
def optC (x : Option D) (K : D → Prop) : Prop := match x with
  | some x => K x
  | none => False
@[simp] theorem optC_some (x : D) (K : D → Prop) : optC (some x) K = K x := (rfl)
@[simp] theorem hx_tup (ds : List D) (i : Nat) (K : D → Prop) : hextract (.tup ds) i K = optC ds[i]? K := (rfl)
@[simp] theorem hnil_iptr (ds : List D) (K : D → Prop) : hnil (.iptr ds) K = K (.iptr ds) := (rfl)
@[simp] theorem hnil_ptr (a : Addr) (K : D → Prop) : hnil (.lit (.pointer (some a))) K = K (.lit (.pointer (some a))) := (rfl)
@[simp] theorem hnil_func (f : FuncId) (x y : Array Value) (K : D → Prop) : hnil (.lit (.func (.func f) x y)) K = K (.lit (.func (.func f) x y)) := (rfl)
@[simp] theorem hiface_lit (T : TI) (t : TypeId) (v : Value) (K : D → Prop) : hiface T t (.lit v) K = (T.kk.isIface = false ∧ K (.lit (.iface t v))) := (rfl)
def intC (k : KK) (n : Int) (K : D → Prop) : Prop := match k with
  | .int k => K (.int k (k.wrap n))
  | _ => False
@[simp] theorem intC_int (k : IntKind) (n : Int) (K : D → Prop) : intC (.int k) n K = K (.int k (k.wrap n)) := (rfl)
@[simp] theorem hconv_int (S T : TI) (k : IntKind) (n : Int) (K : D → Prop) : hconv P S T (.lit (.int k n)) K = intC T.kk n K := (rfl)
@[simp] theorem hconv_str (S T : TI) (s : ByteArray) (K : D → Prop) : hconv P S T (.lit (.string s)) K = (S.kk.isStr = true ∧ (T.kk.isStr = true → K (.str s)) ∧ (T.kk.bytes P = true → K (.list (bytesD s) .ro)) ∧ (T.kk.isStr = true ∨ T.kk.bytes P = true)) := (rfl)
@[simp] theorem hconv_list (S T : TI) (es : List (List D)) (tok : Tok) (K : D → Prop) : hconv P S T (.list es tok) K = ((S.kk.bytes P = true ∧ T.kk.isStr = true) ∧ ∃ s, es = bytesD s ∧ K (.str s)) := (rfl)
def buildC (ds : Option (List D)) (K : D → Prop) : Prop := match ds with
  | some ds => K (.agg ds)
  | none => False
@[simp] theorem buildC_some (ds : List D) (K : D → Prop) : buildC (some ds) K = K (.agg ds) := (rfl)
def placeF (fl : List (Nat × Nat × Bool)) (i : Nat) : Option (Nat × Nat) := (fl[i]?).map fun (f : Nat × Nat × Bool) => (f.1, f.2.1)
@[simp] theorem hbuild_struct (s b : Nat) (z : List D) (fl : List (Nat × Nat × Bool)) (parts : List (Nat × D)) (K : D → Prop) : hbuild ⟨.struct, s, b, some z, fl⟩ parts K = buildC (fillD (placeF fl) z parts) K := (rfl)
@[simp] theorem fillD_nil (pl : Nat → Option (Nat × Nat)) (ds : List D) : fillD pl ds [] = some ds := (rfl)
def fillC (pl : Nat → Option (Nat × Nat)) (p : Option (Nat × Nat)) (ds : List D) (d : D) (rest : List (Nat × D)) : Option (List D) := match p with
  | none => none
  | some (off, size) => if fitD d = true ∧ (cellsD d).length = size ∧ off + size ≤ ds.length then fillD pl (spl ds off (cellsD d)) rest else none
@[simp] theorem fillD_cons (pl : Nat → Option (Nat × Nat)) (ds : List D) (i : Nat) (d : D) (rest : List (Nat × D)) : fillD pl ds ((i, d) :: rest) = fillC pl (pl i) ds d rest := (rfl)
@[simp] theorem fillC_some (pl : Nat → Option (Nat × Nat)) (off size : Nat) (ds : List D) (d : D) (rest : List (Nat × D)) : fillC pl (some (off, size)) ds d rest = if fitD d = true ∧ (cellsD d).length = size ∧ off + size ≤ ds.length then fillD pl (spl ds off (cellsD d)) rest else none := (rfl)
@[simp] theorem placeF_eq (fl : List (Nat × Nat × Bool)) (i : Nat) : placeF fl i = (fl[i]?).map (@bx _ ⟨fun f => (f.1, f.2.1)⟩) := (rfl)

/-! ### Strings cut, slices cut -/
attribute [simp] bnd
def cutC (l h : Option Int) (K : Int → Int → Prop) : Prop := match l, h with
  | some l, some h => K l h
  | _, _ => False
@[simp] theorem cutC_some (l h : Int) (K : Int → Int → Prop) : cutC (some l) (some h) K = K l h := (rfl)
@[simp] theorem hslice_str (E : Nat) (s : ByteArray) (lo hi : Option D) (K : D → Prop) : hslice E (.lit (.string s)) lo hi K = cutC (bnd lo 0) (bnd hi s.size) (@bx _ ⟨fun l h => (0 ≤ l ∧ l ≤ h ∧ h ≤ (s.size : Int)) ∧ K (.str (s.extract l.toNat h.toNat))⟩) := (rfl)
@[simp] theorem hslice_list (E : Nat) (es : List (List D)) (tok : Tok) (lo hi : Option D) (K : D → Prop) : hslice E (.list es tok) lo hi K = cutC (bnd lo 0) (bnd hi es.length) (@bx _ ⟨fun l h => (0 ≤ l ∧ l ≤ h ∧ h ≤ (es.length : Int)) ∧ K (.list ((es.take h.toNat).drop l.toNat) .ro)⟩) := (rfl)

@[simp] theorem hslice_lit (E b o n c : Nat) (lo hi : Option D) (K : D → Prop) : hslice E (.lit (.slice (some ⟨b, o, none⟩) n c)) lo hi K = cutC (bnd lo 0) (bnd hi n) (@bx _ ⟨fun l h => (0 ≤ l ∧ l ≤ h ∧ h ≤ (c : Int)) ∧ K (.lit (.slice (some (if c = l.toNat then ⟨b, o, none⟩ else ⟨b, o + l.toNat * E, none⟩)) (h.toNat - l.toNat) (c - l.toNat)))⟩) := (rfl)

/-! ### Builtins -/
def one1 (l : List D) (K : D → Prop) : Prop := match l with
  | [d] => K d
  | _ => False
def two2 (l : List D) (K : D → D → Prop) : Prop := match l with
  | [a, b] => K a b
  | _ => False
@[simp] theorem one1_eq (d : D) (K : D → Prop) : one1 [d] K = K d := (rfl)
@[simp] theorem two2_eq (a b : D) (K : D → D → Prop) : two2 [a, b] K = K a b := (rfl)
@[simp ↓] theorem hb_len (t : TypeId) (l : List D) (σ : Store) (K : D → Store → Prop) : hbuiltin P lm .len #[t] l σ K = one1 l (@bx _ ⟨fun d => wtx P t (@bx _ ⟨fun X => hlen X.T d σ (@bx _ ⟨(K · σ)⟩)⟩)⟩) := by
  unfold hbuiltin one1 bx
  match l with
  | [] => rfl
  | [d] => rfl
  | _ :: _ :: _ => rfl
@[simp ↓] theorem hb_append (t u : TypeId) (l : List D) (σ : Store) (K : D → Store → Prop) : hbuiltin P lm .append #[t, u] l σ K = two2 l (@bx _ ⟨fun a x => wtx P t (@bx _ ⟨fun X => wel P X.T (@bx _ ⟨fun E => (srcT P u x ∧ E.zf = true ∧ E.zs = true ∧ SizedAs a E.T.size ∧ SizedAs x E.T.size ∧ (∀ s, x = .str s → E.T.size = 1)) ∧ happend lm E.T a x σ K⟩)⟩)⟩) := by
  unfold hbuiltin two2 bx
  match l with
  | [] => rfl
  | [d] => rfl
  | [a, b] => rfl
  | _ :: _ :: _ :: _ => rfl
@[simp ↓] theorem hb_copy (t u : TypeId) (l : List D) (σ : Store) (K : D → Store → Prop) : hbuiltin P lm .copy #[t, u] l σ K = two2 l (@bx _ ⟨fun d x => wtx P t (@bx _ ⟨fun X => wel P X.T (@bx _ ⟨fun E => (SizedAs x E.T.size ∧ (∀ s, x = .str s → E.T.size = 1) ∧ 0 < E.T.size) ∧ hcopy E.T d x σ K⟩)⟩)⟩) := by
  unfold hbuiltin two2 bx
  match l with
  | [] => rfl
  | [d] => rfl
  | [a, b] => rfl
  | _ :: _ :: _ :: _ => rfl
@[simp ↓] theorem hb_clear (t : TypeId) (l : List D) (σ : Store) (K : D → Store → Prop) : hbuiltin P lm .clear #[t] l σ K = one1 l (@bx _ ⟨fun d => wtx P t (@bx _ ⟨fun X => wel P X.T (@bx _ ⟨fun E => E.zf = true ∧ hclear E.T d σ K⟩)⟩)⟩) := by
  unfold hbuiltin one1 bx
  match l with
  | [] => rfl
  | [d] => rfl
  | _ :: _ :: _ => rfl
@[simp] theorem hb_min (ts : Array TypeId) (k k' : IntKind) (a b : Int) (σ : Store) (K : D → Store → Prop) : hbuiltin P lm .min ts [.lit (.int k a), .lit (.int k' b)] σ K = K (.int k (if b < a then b else a)) σ := (rfl)
@[simp] theorem hb_max (ts : Array TypeId) (k k' : IntKind) (a b : Int) (σ : Store) (K : D → Store → Prop) : hbuiltin P lm .max ts [.lit (.int k a), .lit (.int k' b)] σ K = K (.int k (if b > a then b else a)) σ := (rfl)
@[simp ↓] theorem srcT_eq (u : TypeId) (x : D) : srcT P u x = wtx P u (@bx _ ⟨fun X => (X.T.kk.isSlice = true ∨ X.T.kk.isStr = true)⟩) := (rfl)

/-! ### Appending, clearing, copying -/
def srcC (x : Option (List (List D))) (K : List (List D) → Prop) : Prop := match x with
  | some xs => K xs
  | none => False
@[simp] theorem srcC_some (xs : List (List D)) (K : List (List D) → Prop) : srcC (some xs) K = K xs := (rfl)
@[simp] theorem srcE_list (k : Nat) (es : List (List D)) (tok : Tok) (σ : Store) : srcE k (.list es tok) σ = some es := (rfl)
@[simp] theorem srcE_str (k : Nat) (s : ByteArray) (σ : Store) : srcE k (.lit (.string s)) σ = some (bytesD s) := (rfl)
def srcB (k o m : Nat) (x : Option HObj) : Option (List (List D)) := match x with
  | some (.cells ds) => if o + m * k ≤ ds.length then some (chunk m k (ds.drop o)) else none
  | _ => none
@[simp] theorem srcE_lit (k b o m c : Nat) (σ : Store) : srcE k (.lit (.slice (some ⟨b, o, none⟩) m c)) σ = srcB k o m (σ b) := (rfl)
@[simp] theorem srcB_cells (k o m : Nat) (ds : List D) : srcB k o m (some (.cells ds)) = if o + m * k ≤ ds.length then some (chunk m k (ds.drop o)) else none := (rfl)
def appA (lm : Bool) (E : TI) (xs : List (List D)) (a : D) (σ : Store) (K : D → Store → Prop) : Prop :=
  match a with
    | .list es tok => ((es.length + xs.length) * E.bytes ≤ 140737488355328 ∧ es.length + xs.length ≤ 9223372036854775807) ∧
      (if lm then tokList tok = true ∧ (xs = [] → K (.list es tok) σ) ∧ (xs ≠ [] → ∀ z, E.zero = some z → ∀ b c, σ b = none → es.length + xs.length ≤ c → c ≤ 9223372036854775807 →
          K (.lit (.slice (some ⟨b, 0, none⟩) (es.length + xs.length) c)) (σ.set b (.cells (es.flatten ++ xs.flatten ++ zrep (c - (es.length + xs.length)) z))))
      else match tok with
        | .nil => (xs = [] → K (.list es .nil) σ) ∧ (xs ≠ [] → ∀ b c, σ b = none → es.length + xs.length ≤ c → K (.list (es ++ xs) (.own b c E.size)) (σ.set b (.spare (es.length + xs.length) c E.size)))
        | .full => (xs = [] → K (.list es .full) σ) ∧ (xs ≠ [] → ∀ b c, σ b = none → es.length + xs.length ≤ c → K (.list (es ++ xs) (.own b c E.size)) (σ.set b (.spare (es.length + xs.length) c E.size)))
        | .own b c k => (σ b = some (.spare es.length c k) ∧ k = E.size) ∧
            (es.length + xs.length ≤ c → K (.list (es ++ xs) (.own b c k)) (σ.set b (.spare (es.length + xs.length) c k))) ∧
            (c < es.length + xs.length → ∀ b' c', σ b' = none → es.length + xs.length ≤ c' → K (.list (es ++ xs) (.own b' c' k)) (σ.set b' (.spare (es.length + xs.length) c' k)))
        | .ro => False)
    | .lit (.slice (some ⟨b, o, none⟩) n c) => match σ b with
      | some (.cells ds) => (n ≤ c ∧ o + c * E.size ≤ ds.length ∧ (n + xs.length) * E.bytes ≤ 140737488355328 ∧ n + xs.length ≤ 9223372036854775807) ∧
          (n + xs.length ≤ c → K (.lit (.slice (some ⟨b, o, none⟩) (n + xs.length) c)) (σ.set b (.cells (spl ds (o + n * E.size) xs.flatten)))) ∧
          (c < n + xs.length → ∀ z, E.zero = some z → ∀ b' c', σ b' = none → n + xs.length ≤ c' → c' ≤ 9223372036854775807 →
            K (.lit (.slice (some ⟨b', 0, none⟩) (n + xs.length) c')) (σ.set b' (.cells ((ds.drop o).take (n * E.size) ++ xs.flatten ++ zrep (c' - (n + xs.length)) z))))
      | _ => False
    | _ => False
@[simp ↓] theorem happend_eq (E : TI) (a x : D) (σ : Store) (K : D → Store → Prop) : happend lm E a x σ K = srcC (srcE E.size x σ) (@bx _ ⟨fun xs => 0 < E.size ∧ appA lm E xs a σ K⟩) := by
  unfold happend
  cases srcE E.size x σ with
  | none => rfl
  | some xs => rfl
@[simp] theorem appA_nil (E : TI) (xs es : List (List D)) (σ : Store) (K : D → Store → Prop) : appA false E xs (.list es .nil) σ K = (((es.length + xs.length) * E.bytes ≤ 140737488355328 ∧ es.length + xs.length ≤ 9223372036854775807) ∧ (xs = [] → K (.list es .nil) σ) ∧ (xs ≠ [] → ∀ b c, σ b = none → es.length + xs.length ≤ c → K (.list (es ++ xs) (.own b c E.size)) (σ.set b (.spare (es.length + xs.length) c E.size)))) := (rfl)
@[simp] theorem appA_full (E : TI) (xs es : List (List D)) (σ : Store) (K : D → Store → Prop) : appA false E xs (.list es .full) σ K = (((es.length + xs.length) * E.bytes ≤ 140737488355328 ∧ es.length + xs.length ≤ 9223372036854775807) ∧ (xs = [] → K (.list es .full) σ) ∧ (xs ≠ [] → ∀ b c, σ b = none → es.length + xs.length ≤ c → K (.list (es ++ xs) (.own b c E.size)) (σ.set b (.spare (es.length + xs.length) c E.size)))) := (rfl)
@[simp] theorem appA_own (E : TI) (xs es : List (List D)) (b c k : Nat) (σ : Store) (K : D → Store → Prop) : appA false E xs (.list es (.own b c k)) σ K = (((es.length + xs.length) * E.bytes ≤ 140737488355328 ∧ es.length + xs.length ≤ 9223372036854775807) ∧ (σ b = some (.spare es.length c k) ∧ k = E.size) ∧
            (es.length + xs.length ≤ c → K (.list (es ++ xs) (.own b c k)) (σ.set b (.spare (es.length + xs.length) c k))) ∧
            (c < es.length + xs.length → ∀ b' c', σ b' = none → es.length + xs.length ≤ c' → K (.list (es ++ xs) (.own b' c' k)) (σ.set b' (.spare (es.length + xs.length) c' k)))) := (rfl)
@[simp] theorem appA_lm (E : TI) (xs es : List (List D)) (tok : Tok) (σ : Store) (K : D → Store → Prop) : appA true E xs (.list es tok) σ K = (((es.length + xs.length) * E.bytes ≤ 140737488355328 ∧ es.length + xs.length ≤ 9223372036854775807) ∧ tokList tok = true ∧ (xs = [] → K (.list es tok) σ) ∧ (xs ≠ [] → ∀ z, E.zero = some z → ∀ b c, σ b = none → es.length + xs.length ≤ c → c ≤ 9223372036854775807 →
          K (.lit (.slice (some ⟨b, 0, none⟩) (es.length + xs.length) c)) (σ.set b (.cells (es.flatten ++ xs.flatten ++ zrep (c - (es.length + xs.length)) z))))) := (rfl)
def appL (E : TI) (xs : List (List D)) (b o n c : Nat) (x : Option HObj) (σ : Store) (K : D → Store → Prop) : Prop := match x with
      | some (.cells ds) => (n ≤ c ∧ o + c * E.size ≤ ds.length ∧ (n + xs.length) * E.bytes ≤ 140737488355328 ∧ n + xs.length ≤ 9223372036854775807) ∧
          (n + xs.length ≤ c → K (.lit (.slice (some ⟨b, o, none⟩) (n + xs.length) c)) (σ.set b (.cells (spl ds (o + n * E.size) xs.flatten)))) ∧
          (c < n + xs.length → ∀ z, E.zero = some z → ∀ b' c', σ b' = none → n + xs.length ≤ c' → c' ≤ 9223372036854775807 →
            K (.lit (.slice (some ⟨b', 0, none⟩) (n + xs.length) c')) (σ.set b' (.cells ((ds.drop o).take (n * E.size) ++ xs.flatten ++ zrep (c' - (n + xs.length)) z))))
      | _ => False
@[simp] theorem appA_lit (E : TI) (xs : List (List D)) (b o n c : Nat) (σ : Store) (K : D → Store → Prop) : appA lm E xs (.lit (.slice (some ⟨b, o, none⟩) n c)) σ K = appL E xs b o n c (σ b) σ K := (rfl)
@[simp] theorem appL_cells (E : TI) (xs : List (List D)) (b o n c : Nat) (ds : List D) (σ : Store) (K : D → Store → Prop) : appL E xs b o n c (some (.cells ds)) σ K = ((n ≤ c ∧ o + c * E.size ≤ ds.length ∧ (n + xs.length) * E.bytes ≤ 140737488355328 ∧ n + xs.length ≤ 9223372036854775807) ∧
          (n + xs.length ≤ c → K (.lit (.slice (some ⟨b, o, none⟩) (n + xs.length) c)) (σ.set b (.cells (spl ds (o + n * E.size) xs.flatten)))) ∧
          (c < n + xs.length → ∀ z, E.zero = some z → ∀ b' c', σ b' = none → n + xs.length ≤ c' → c' ≤ 9223372036854775807 →
            K (.lit (.slice (some ⟨b', 0, none⟩) (n + xs.length) c')) (σ.set b' (.cells ((ds.drop o).take (n * E.size) ++ xs.flatten ++ zrep (c' - (n + xs.length)) z))))) := (rfl)
def clrC (E : TI) (b o n : Nat) (z : List D) (x : Option HObj) (σ : Store) (K : D → Store → Prop) : Prop := match x with
  | some (.cells ds) => (z.length = E.size ∧ o + n * E.size ≤ ds.length) ∧ K (.tup []) (σ.set b (.cells (spl ds o (zrep n z))))
  | _ => False
@[simp] theorem clrC_cells (E : TI) (b o n : Nat) (z : List D) (ds : List D) (σ : Store) (K : D → Store → Prop) : clrC E b o n z (some (.cells ds)) σ K = ((z.length = E.size ∧ o + n * E.size ≤ ds.length) ∧ K (.tup []) (σ.set b (.cells (spl ds o (zrep n z))))) := (rfl)
@[simp] theorem hclear_lit (k : KK) (sz by' : Nat) (z : List D) (fl : List (Nat × Nat × Bool)) (b o n c : Nat) (σ : Store) (K : D → Store → Prop) : hclear ⟨k, sz, by', some z, fl⟩ (.lit (.slice (some ⟨b, o, none⟩) n c)) σ K = (if n = 0 then K (.tup []) σ else clrC ⟨k, sz, by', some z, fl⟩ b o n z (σ b) σ K) := (rfl)
@[simp] theorem hclear_list (E : TI) (tok : Tok) (σ : Store) (K : D → Store → Prop) : hclear E (.list [] tok) σ K = K (.tup []) σ := (rfl)
def bsC (lm : Bool) (E : TI) (n : Nat) (z : List D) (ds : Option (List D)) (σ : Store) (K : D → Store → Prop) : Prop := match ds with
  | some ds => if lm then ∀ b, σ b = none → K (.lit (.slice (some ⟨b, 0, none⟩) n n)) (σ.set b (.cells ds)) else K (.list (chunk n E.size ds) .full) σ
  | none => False
@[simp] theorem bsC_t (E : TI) (n : Nat) (z ds : List D) (σ : Store) (K : D → Store → Prop) : bsC true E n z (some ds) σ K = ∀ b, σ b = none → K (.lit (.slice (some ⟨b, 0, none⟩) n n)) (σ.set b (.cells ds)) := (rfl)
@[simp] theorem bsC_f (E : TI) (n : Nat) (z ds : List D) (σ : Store) (K : D → Store → Prop) : bsC false E n z (some ds) σ K = K (.list (chunk n E.size ds) .full) σ := (rfl)
def placeS (k : Nat) (i : Nat) : Option (Nat × Nat) := some (i * k, k)
@[simp] theorem placeS_eq (k i : Nat) : placeS k i = some (i * k, k) := (rfl)
@[simp] theorem hbs_eq (k : KK) (sz by' n : Nat) (z : List D) (fl : List (Nat × Nat × Bool)) (parts : List (Nat × D)) (σ : Store) (K : D → Store → Prop) : hbuildSlice lm ⟨k, sz, by', some z, fl⟩ n parts σ K = ((n * sz ≤ 16777216 ∧ n ≤ 16777216) ∧ z.length = sz ∧ bsC lm ⟨k, sz, by', some z, fl⟩ n z (fillD (placeS sz) (zrep n z) parts) σ K) := (rfl)
@[simp] theorem zrep_zero (z : List D) : zrep 0 z = [] := (rfl)
@[simp] theorem zrep_succ (n : Nat) (z : List D) : zrep (n + 1) z = z ++ zrep n z := by simp [zrep, List.replicate_succ]
@[simp] theorem chunk_zero (k : Nat) (ds : List D) : chunk 0 k ds = [] := (rfl)
@[simp] theorem chunk_succ (n k : Nat) (ds : List D) : chunk (n + 1) k ds = ds.take k :: chunk n k (ds.drop k) := (rfl)

/-! ### Results -/
@[simp ↓] theorem hres_nil (e : Env) (s : Store) (K : List D → Prop) : hres P [] e s K = K [] := (rfl)
@[simp ↓] theorem hres_tmp (t : Nat) (r : List ResultVar) (e : Env) (s : Store) (K : List D → Prop) : hres P (.tmp t :: r) e s K = hres P r e s (@bx _ ⟨fun ds => K (e t :: ds)⟩) := (rfl)
@[simp ↓] theorem hres_cell (a : Nat) (t : TypeId) (r : List ResultVar) (e : Env) (s : Store) (K : List D → Prop) : hres P (.cell a t :: r) e s K = wtx P t (@bx _ ⟨fun X => hload X.T (e a) s (@bx _ ⟨fun d => hres P r e s (@bx _ ⟨fun ds => K (d :: ds)⟩)⟩)⟩) := (rfl)
@[simp] theorem tupD_one (d : D) : tupD [d] = d := (rfl)
@[simp] theorem tupD_nil : tupD [] = .tup [] := (rfl)
@[simp] theorem tupD_two (a b : D) (r : List D) : tupD (a :: b :: r) = .tup (a :: b :: r) := (rfl)
/-- The same with the ends by name. -/
def endK (P : Program) (rs : List ResultVar) (Q : D → Store → Prop) (e : Env) (s : Store) : Prop := hres P rs e s fun ds => ∃ s', SLe s' s ∧ Q (tupD ds) s'
def retK' (P : Program) (rs : List ResultVar) (Q : D → Store → Prop) : Kont := { n := endK P rs Q, r := endK P rs Q, x := fun _ _ _ => False }
theorem endK_of (rs : List ResultVar) (Q : D → Store → Prop) (e : Env) (s : Store) (h : hres P rs e s fun ds => Q (tupD ds) s) : endK P rs Q e s := by
  unfold endK
  revert Q
  have gen : ∀ (rs : List ResultVar) (A B : List D → Prop), (∀ ds, A ds → B ds) → hres P rs e s A → hres P rs e s B := by
    intro rs
    induction rs with
    | nil => intro A B h x; exact h _ x
    | cons r rs ih =>
      intro A B h x
      cases r with
      | tmp t => exact ih _ _ (fun ds => h _) x
      | cell a t =>
        simp only [hres] at x ⊢
        unfold wtx at x ⊢
        split at x
        · unfold hload at x ⊢
          repeat' split at x <;> first | exact x.elim | exact ⟨x.1, ih _ _ (fun ds => h _) x.2⟩ | skip
        · exact x.elim
  intro Q h
  exact gen rs _ _ (fun ds h => ⟨s, SLe.refl s, h⟩) h
@[simp ↓] theorem retK_n (rs : List ResultVar) (Q : D → Store → Prop) : (retK' P rs Q).n = endK P rs Q := (rfl)
@[simp ↓] theorem retK_r (rs : List ResultVar) (Q : D → Store → Prop) : (retK' P rs Q).r = endK P rs Q := (rfl)
@[simp ↓] theorem endK_def (rs : List ResultVar) (Q : D → Store → Prop) (e : Env) (s : Store) : endK P rs Q e s = hres P rs e s (@bx _ ⟨fun ds => ∃ s', SLe s' s ∧ Q (tupD ds) s'⟩) := (rfl)
/-- A contract, from the body. -/
theorem HCalls.start (hm : P.follows .mixedOrders = true) (lm : Bool) {f : FuncId} {fn : Func} (c : Code) (rs : List ResultVar) {σ : Store} (hf : P.funcs[f]? = some fn) (hb : fn.body = some c) (hc : codeOk fn.ntmps c = true) (hrs : fn.results.toList = rs) (hr : rs.all (resOk fn.ntmps) = true) {ds : List D} (hds : decide (ds.length ≤ fn.ntmps) = true) {Q : D → Store → Prop}
    (h : hwp P lm c (retK' P rs Q) (initEnv ds) σ) : HCalls P f ds σ Q :=
  HCalls.of_body hm lm hf hb hc (by rw [hrs]; exact hr) (by simpa using hds) (by subst hrs; exact h)
/-- A function that hands back this, and leaves the store. -/
def Ret (P : Program) (f : FuncId) (ds : List D) (r : D) : Prop := ∀ (σ : Store) (Q : D → Store → Prop), Q r σ → HCalls P f ds σ Q
theorem hloop_intro (I : Nat → Env → Store → Prop) (n : Nat) {b : Kont → Env → Store → Prop} {K : Kont} {e : Env} {s : Store} (h0 : I n e s)
    (step : ∀ n e s, I n e s → b (@bx _ ⟨{ K with n := fun e' s' => ∃ m s'', m < n ∧ SLe s'' s' ∧ I m e' s'' }⟩) e s) : hloop b K e s := ⟨I, ⟨n, s, SLe.refl s, h0⟩, step⟩
theorem again {n : Nat} {I : Nat → Env → Store → Prop} {e : Env} {s s0 : Store} (hs : SLe s0 s) (m : Nat) (hm : m < n) (h : I m e s0) : ∃ m s'', m < n ∧ SLe s'' s ∧ I m e s'' := ⟨m, s0, hm, hs, h⟩
theorem SLe.set {σ σ' : Store} (h : SLe σ σ') {b : Nat} (hb : σ' b = none) (o : HObj) : SLe σ (σ'.set b o) := by
  intro x o' e
  have := h x o' e
  by_cases hx : x = b
  · subst hx; rw [hb] at this; cases this
  · rw [Store.set_ne _ _ _ _ hx]; exact this
theorem wrap_i64 (x : Int) (h0 : -9223372036854775808 ≤ x) (h1 : x ≤ 9223372036854775807) : IntKind.i64.wrap x = x := by
  exact IntWalk.i64_in x ⟨h0, h1⟩
theorem leaf {σ σ' : Store} {Q : D → Store → Prop} {d : D} (hs : SLe σ σ') (h : Q d σ) : ∃ s', SLe s' σ' ∧ Q d s' := ⟨σ, hs, h⟩

@[simp] theorem hgd_undef (w : Bool) (A B : Prop) : hgd (.lit undef) w (@bx _ ⟨A⟩) (@bx _ ⟨B⟩) = B := (rfl)
/-- A loop that leaves the store as it was, as far as anybody asks. -/
theorem hloop_fix (I : Nat → Env → Prop) (n : Nat) {b : Kont → Env → Store → Prop} {K : Kont} {e : Env} {s : Store} (h0 : I n e)
    (step : ∀ n e, I n e → b (@bx _ ⟨{ K with n := fun e' s' => SLe s s' ∧ ∃ m, m < n ∧ I m e' }⟩) e s) : hloop b K e s :=
  ⟨fun n e s' => s' = s ∧ I n e, ⟨n, s, SLe.refl s, rfl, h0⟩, fun n e s' ⟨h1, h2⟩ => by
    subst h1
    have := step n e h2
    have heq : ({ K with n := fun e' s'' => ∃ m s2, m < n ∧ SLe s2 s'' ∧ s2 = s' ∧ I m e' } : Kont) = { K with n := fun e' s'' => SLe s' s'' ∧ ∃ m, m < n ∧ I m e' } := by
      congr 1
      funext e' s''
      apply propext
      constructor
      · rintro ⟨m, s2, h1, h2, rfl, h3⟩; exact ⟨h2, m, h1, h3⟩
      · rintro ⟨h2, m, h1, h3⟩; exact ⟨m, s', h1, h2, rfl, h3⟩
    rw [heq]; exact this⟩
/-! ### Draws -/
theorem cut_all {ops : List Oper} (A : List Nat) : cutOk ops A ops.length = true := by
  unfold cutOk
  simp only [Bool.and_eq_true, decide_eq_true_eq, List.all_eq_true, List.mem_range, Bool.or_eq_true]
  exact ⟨Nat.le_refl _, fun k hk => .inl hk⟩
/-- What is read is a part of what stands written. -/
theorem hdraw_part (σ0 : Store) {ops : List Oper} {e : Env} {s : Store} {N : Env → Store → Prop} (hs : SLe σ0 s) (h1 : drawOk P lm ops = true) (h2 : hseq P lm σ0 (@bx _ ⟨ops⟩) (@bx _ ⟨ops⟩) e s N) : hdraw P lm ⟨ops⟩ e s N := by
  refine .inr ⟨h1, ops.length, σ0, cut_all _, hs, ?_⟩
  rw [List.take_length]
  have mono : ∀ (r : List Oper) (e : Env) (s : Store) (N N' : Env → Store → Prop), (∀ e s, N e s → N' e s) → hseq P lm σ0 ops r e s N → hseq P lm σ0 ops r e s N' := by
    intro r
    induction r with
    | nil => intro e s N N' hn h; exact hn _ _ h
    | cons o r ih =>
      intro e s N N' hn h
      rw [hseq_cons] at h ⊢
      exact G_frame (fun _ _ => rfl) (fun d s' h => ih _ _ _ _ hn h) h
  refine mono ops e s N _ (fun e s h => ⟨s, SLe.refl s, ?_⟩) h2
  rw [List.drop_length]
  exact h
theorem hdraw_intro {ops : List Oper} {e : Env} {s : Store} {N : Env → Store → Prop} (h1 : drawOk P lm ops = true) (h2 : hseq P lm s (@bx _ ⟨ops⟩) (@bx _ ⟨ops⟩) e s N) : hdraw P lm ⟨ops⟩ e s N := hdraw_part s (SLe.refl s) h1 h2
@[simp] theorem hseq_nil (σ0 : Store) (all : List Oper) (e : Env) (s : Store) (N : Env → Store → Prop) : hseq P lm σ0 (@bx _ ⟨all⟩) (@bx _ ⟨[]⟩) e s N = N e s := (rfl)
@[simp] theorem hseq_one (σ0 : Store) (all : List Oper) (d : Option Tmp) (op : Op) (ty : TypeId) (pos : String) (af : Array Edge) (r : List Oper) (e : Env) (s : Store) (N : Env → Store → Prop) :
    hseq P lm σ0 (@bx _ ⟨all⟩) (@bx _ ⟨{ dst := d, op := op, type := ty, pos := pos, after := af, guard := none } :: r⟩) e s N = stepD P lm σ0 op e s (@bx _ ⟨fun v s' => hseq P lm σ0 (@bx _ ⟨all⟩) (@bx _ ⟨r⟩) (updo e d v) s' N⟩) := (rfl)
@[simp] theorem hseq_guard (σ0 : Store) (all : List Oper) (d : Option Tmp) (op : Op) (ty : TypeId) (pos : String) (af : Array Edge) (r : List Oper) (e : Env) (s : Store) (N : Env → Store → Prop) (j : Nat) (want : Bool) :
    hseq P lm σ0 (@bx _ ⟨all⟩) (@bx _ ⟨{ dst := d, op := op, type := ty, pos := pos, after := af, guard := some (j, want) } :: r⟩) e s N =
      hgo (dstAt all j) e want (@bx _ ⟨stepD P lm σ0 op e s (@bx _ ⟨fun v s' => hseq P lm σ0 (@bx _ ⟨all⟩) (@bx _ ⟨r⟩) (updo e d v) s' N⟩)⟩) (@bx _ ⟨hseq P lm σ0 (@bx _ ⟨all⟩) (@bx _ ⟨r⟩) (updo e d (.lit undef)) s N⟩) := by
  simp only [hseq, guardD, dstAt_eq, hgo, bx]
  cases dstAt all j with
  | none => rfl
  | some t => first | (simp only [hgd]; done) | (simp only [hgd]; rfl)
/-- The first so many, then what is read may be chosen anew. -/
def hseqN (P : Program) (lm : Bool) (c : Nat) (σ0 : Store) (all r : List Oper) (e : Env) (s : Store) (N : Env → Store → Prop) : Prop :=
  hseq P lm σ0 all (r.take c) e s fun e s => ∃ σ1, SLe σ1 s ∧ hseq P lm σ1 all (r.drop c) e s N
@[simp] theorem hseqN_zero (σ0 : Store) (all r : List Oper) (e : Env) (s : Store) (N : Env → Store → Prop) : hseqN P lm 0 σ0 (@bx _ ⟨all⟩) (@bx _ ⟨r⟩) e s N = ∃ σ1, SLe σ1 s ∧ hseq P lm σ1 (@bx _ ⟨all⟩) (@bx _ ⟨r⟩) e s N := (rfl)
@[simp] theorem hseqN_one (c : Nat) (σ0 : Store) (all : List Oper) (d : Option Tmp) (op : Op) (ty : TypeId) (pos : String) (af : Array Edge) (r : List Oper) (e : Env) (s : Store) (N : Env → Store → Prop) :
    hseqN P lm (c + 1) σ0 (@bx _ ⟨all⟩) (@bx _ ⟨{ dst := d, op := op, type := ty, pos := pos, after := af, guard := none } :: r⟩) e s N = stepD P lm σ0 op e s (@bx _ ⟨fun v s' => hseqN P lm c σ0 (@bx _ ⟨all⟩) (@bx _ ⟨r⟩) (updo e d v) s' N⟩) := (rfl)
@[simp] theorem hseqN_guard (c : Nat) (σ0 : Store) (all : List Oper) (d : Option Tmp) (op : Op) (ty : TypeId) (pos : String) (af : Array Edge) (r : List Oper) (e : Env) (s : Store) (N : Env → Store → Prop) (j : Nat) (want : Bool) :
    hseqN P lm (c + 1) σ0 (@bx _ ⟨all⟩) (@bx _ ⟨{ dst := d, op := op, type := ty, pos := pos, after := af, guard := some (j, want) } :: r⟩) e s N =
      hgo (dstAt all j) e want (@bx _ ⟨stepD P lm σ0 op e s (@bx _ ⟨fun v s' => hseqN P lm c σ0 (@bx _ ⟨all⟩) (@bx _ ⟨r⟩) (updo e d v) s' N⟩)⟩) (@bx _ ⟨hseqN P lm c σ0 (@bx _ ⟨all⟩) (@bx _ ⟨r⟩) (updo e d (.lit undef)) s N⟩) := by
  simp only [hseqN, hseq, guardD, dstAt_eq, hgo, bx, List.take_succ_cons, List.drop_succ_cons]
  cases dstAt all j with
  | none => rfl
  | some t => first | (simp only [hgd]; done) | (simp only [hgd]; rfl)
/-- In two parts: from a place on that stands behind all ahead of it, what is read may be chosen anew. -/
theorem hdraw_cut (c : Nat) (σ0 : Store) {ops : List Oper} {e : Env} {s : Store} {N : Env → Store → Prop} (hs : SLe σ0 s) (h1 : drawOk P lm ops = true) (hc : cutOk ops (ancs ops []) c = true)
    (h2 : hseqN P lm c σ0 (@bx _ ⟨ops⟩) (@bx _ ⟨ops⟩) e s N) : hdraw P lm ⟨ops⟩ e s N := .inr ⟨h1, c, σ0, hc, hs, h2⟩
def stepB (c : Bool) (A B : Prop) : Prop := if c then A else B
@[simp] theorem stepB_true (A B : Prop) : stepB true (@bx _ ⟨A⟩) (@bx _ ⟨B⟩) = A := by simp [stepB, bx]
@[simp] theorem stepB_false (A B : Prop) : stepB false (@bx _ ⟨A⟩) (@bx _ ⟨B⟩) = B := by simp [stepB, bx]
@[simp ↓] theorem stepD_eq (σ0 : Store) (o : Op) (e : Env) (s : Store) (K : D → Store → Prop) : stepD P lm σ0 o e s K = stepB (calm P lm o) (@bx _ ⟨hop P lm o e σ0 (@bx _ ⟨fun d _ => K d s⟩)⟩) (@bx _ ⟨hop P lm o e s (@bx _ ⟨fun d s' => SLe σ0 s' ∧ K d s'⟩)⟩) := (rfl)
@[simp] theorem SLe_self (σ : Store) : SLe σ σ = True := by simp [SLe.refl]
@[simp] theorem SLe_new (σ : Store) (b : Nat) (o : HObj) (h : σ b = none) : SLe σ (σ.set b o) = True := by simp [SLe.set (SLe.refl σ) h o]
@[simp] theorem SLe_new2 (σ σ' : Store) (b : Nat) (o : HObj) (h : σ' b = none) (hs : SLe σ σ') : SLe σ (σ'.set b o) = True := by simp [SLe.set hs h o]
theorem notSlice_of {t : TypeId} {X : TX} (h : tx P t = some X) : notSlice P t = !X.T.kk.isSlice := by simp [notSlice, h]
section
variable (x y z : Operand) (t u : TypeId) (n : Nat) (b : Bool)
@[simp ↓] theorem calm_move : calm P lm (.move x) = true := (rfl)
@[simp ↓] theorem calm_assign : calm P lm (.assign x) = true := (rfl)
@[simp ↓] theorem calm_pick : calm P lm (.pick x y z) = true := (rfl)
@[simp ↓] theorem calm_build (p) : calm P lm (.build t p) = true := (rfl)
@[simp ↓] theorem calm_load : calm P lm (.load t x) = true := (rfl)
@[simp ↓] theorem calm_nilCheck : calm P lm (.nilCheck x) = true := (rfl)
@[simp ↓] theorem calm_unOp (o) : calm P lm (.unOp o t x) = true := (rfl)
@[simp ↓] theorem calm_convert : calm P lm (.convert t u x) = true := (rfl)
@[simp ↓] theorem calm_iface : calm P lm (.makeInterface t x) = true := (rfl)
@[simp ↓] theorem calm_func (f p q) : calm P lm (.makeFunc f p q) = true := (rfl)
@[simp ↓] theorem calm_fieldAddr : calm P lm (.fieldAddr t x n) = true := (rfl)
@[simp ↓] theorem calm_field : calm P lm (.field t x n) = true := (rfl)
@[simp ↓] theorem calm_indexAddr : calm P lm (.indexAddr t x y) = true := (rfl)
@[simp ↓] theorem calm_index : calm P lm (.index t x y) = true := (rfl)
@[simp ↓] theorem calm_lookup : calm P lm (.lookup t x y b) = true := (rfl)
@[simp ↓] theorem calm_extract : calm P lm (.extract x n) = true := (rfl)
@[simp ↓] theorem calm_slice (l h) : calm P lm (.slice t x l h none) = true := (rfl)
@[simp ↓] theorem calm_binOp (o) : calm P lm (.binOp o t x y u) = notSlice P t := (rfl)
@[simp ↓] theorem calm_buildSlice (p) : calm P lm (.buildSlice t n p) = !lm := (rfl)
@[simp ↓] theorem calm_len (a ts) : calm P lm (.call { callee := .builtin .len, args := a, argTypes := ts }) = true := (rfl)
@[simp ↓] theorem calm_min (a ts) : calm P lm (.call { callee := .builtin .min, args := a, argTypes := ts }) = true := (rfl)
@[simp ↓] theorem calm_max (a ts) : calm P lm (.call { callee := .builtin .max, args := a, argTypes := ts }) = true := (rfl)
@[simp ↓] theorem calm_append (a ts) : calm P lm (.call { callee := .builtin .append, args := a, argTypes := ts }) = false := (rfl)
@[simp ↓] theorem calm_copy (a ts) : calm P lm (.call { callee := .builtin .copy, args := a, argTypes := ts }) = false := (rfl)
@[simp ↓] theorem calm_clear (a ts) : calm P lm (.call { callee := .builtin .clear, args := a, argTypes := ts }) = false := (rfl)
@[simp ↓] theorem calm_call (a ts) : calm P lm (.call { callee := .value x, args := a, argTypes := ts }) = false := (rfl)
@[simp ↓] theorem calm_alloc : calm P lm (.alloc t) = false := (rfl)
@[simp ↓] theorem calm_box : calm P lm (.box t x) = false := (rfl)
@[simp ↓] theorem calm_store : calm P lm (.store t x y) = false := (rfl)
@[simp ↓] theorem calm_makeMap (q) : calm P lm (.makeMap t q) = false := (rfl)
@[simp ↓] theorem calm_makeSlice : calm P lm (.makeSlice t x y) = false := (rfl)
@[simp ↓] theorem calm_mapUpdate : calm P lm (.mapUpdate t x y z) = false := (rfl)
end
end Go.HL
/- HL, part P: a block that nobody writes any more is told as a list. -/
set_option linter.unusedVariables false
set_option linter.unusedSimpArgs false
namespace Go.HL
open Go.RowKit
variable {P : Program} {w0 w : World} {M : Mem} {σ : Store}

theorem Sim.freeze (h : Sim w0 M σ w) {b : Nat} {ds : List D} (e : σ b = some (.cells ds)) {σ' : Store} (hs : SLe σ' σ) (hb : σ' b = none) :
    ∃ (M' : Mem) (cs : Array Value), MLe M M' ∧ Sim w0 M' σ' w ∧ cs.size = ds.length ∧ (∀ o, M' b o = cs[o]?) ∧ ∀ j d, ds[j]? = some d → Den M' (cs.getD j undef) d := by
  obtain ⟨cs, t, hrow, hsz, hone, hden, hno⟩ := h.cells b ds e
  let M' : Mem := fun x o => if x = b then cs[o]? else M x o
  have hM : MLe M M' := fun x o v hv => by
    show (if x = b then cs[o]? else M x o) = some v
    by_cases hx : x = b
    · subst hx; rw [hno] at hv; cases hv
    · rw [if_neg hx]; exact hv
  have hg := h.drop hs
  have hne : ∀ x o, σ' x = some o → x ≠ b := fun x o hx hxb => by subst hxb; rw [hb] at hx; cases hx
  refine ⟨M', cs, hM, ⟨hg.base, hg.low, fun x o v hv => ?_, fun x xs hx => ?_, fun x n c k hx => ?_, hg.maps⟩, hsz, fun o => by simp [M'], fun j d hd => (hden j d hd).mono hM⟩
  · by_cases hx : x = b
    · subst hx
      have hv : cs[o]? = some v := by simpa [M'] using hv
      refine ⟨by rw [cell_of_row w x o cs t (0, 0) hrow]; exact hv, ?_⟩
      obtain ⟨ho, hv⟩ := Array.getElem?_eq_some_iff.1 hv
      have := hone o ho
      simp only [Array.getD, ho, dif_pos] at this
      rw [← hv]; exact this
    · have hv : M x o = some v := by simpa [M', hx] using hv
      exact h.mem x o v hv
  · obtain ⟨cs', t', r1, r2, r3, r4, r5⟩ := hg.cells x xs hx
    exact ⟨cs', t', r1, r2, r3, fun i d hd => (r4 i d hd).mono hM, fun o => by show (if x = b then _ else _) = none; rw [if_neg (hne x _ hx)]; exact r5 o⟩
  · obtain ⟨cs', t', r1, r2, r3, r4⟩ := hg.spare x n c k hx
    exact ⟨cs', t', r1, r2, r3, fun o ho => by show (if x = b then _ else _) = none; rw [if_neg (hne x _ hx)]; exact r4 o ho⟩

/-- The slice of a block told as a list. -/
inductive Frz (s' s : Store) : D → D → Prop
  | slice (b o n c k : Nat) (ds : List D) (e : s b = some (.cells ds)) (hb : s' b = none) (h1 : o + n * k ≤ ds.length) (h2 : n ≤ c) (h3 : c ≤ 9223372036854775807) : Frz s' s (.lit (.slice (some ⟨b, o, none⟩) n c)) (.list (chunk n k (ds.drop o)) .ro)

theorem Frz.goes (h : Sim w0 M σ w) {σ' : Store} (hs : SLe σ' σ) {d d' : D} (hf : Frz σ' σ d d') {v : Value} (hv : Den M v d) : ∃ M', MLe M M' ∧ Sim w0 M' σ' w ∧ Den M' v d' := by
  cases hf with
  | slice b o n c k ds e hb h1 h2 h3 =>
    obtain ⟨M', cs, hM, hS, hsz, hcell, hden⟩ := h.freeze e hs hb
    have := den_lit_inv hv; subst this
    refine ⟨M', hM, hS, .list _ _ _ k b o _ .ro (fun i j => cs.getD (o + i * k + j) undef) (by rw [chunk_length]) h2 h3 (fun _ => rfl) (fun i e he => ?_) (fun i j hi hj => ?_) (fun i e j d he hj => ?_) trivial⟩
    · have hi : i < n := by have := (List.getElem?_eq_some_iff.1 he).1; rwa [chunk_length] at this
      rw [chunk_get n k _ i hi] at he
      injection he with he; subst he
      have : i * k + k ≤ n * k := by rw [← Nat.succ_mul]; exact Nat.mul_le_mul_right k hi
      simp; omega
    · have : i * k + k ≤ n * k := by rw [← Nat.succ_mul]; exact Nat.mul_le_mul_right k hi
      rw [hcell, Array.getD_eq_getD_getElem?]
      have hlt : o + i * k + j < cs.size := by omega
      simp [hlt]
    · have hi : i < n := by have := (List.getElem?_eq_some_iff.1 he).1; rwa [chunk_length] at this
      rw [chunk_get n k _ i hi] at he
      injection he with he; subst he
      have hjk : j < k := by
        have := (List.getElem?_eq_some_iff.1 hj).1
        rw [List.length_take] at this; omega
      rw [List.getElem?_take, if_pos hjk, List.getElem?_drop, List.getElem?_drop] at hj
      exact hden _ _ (by rw [Nat.add_assoc]; exact hj)

theorem HCalls.freeze {f : FuncId} {ds : List D} {Q : D → Store → Prop} (h : HCalls P f ds σ fun d s => Q d s ∨ ∃ d' s', SLe s' s ∧ Frz s' s d d' ∧ Q d' s') : HCalls P f ds σ Q :=
  fun w0 M w vs hs hl hd => (h w0 M w vs hs hl hd).mono fun e w' ⟨v, M', d, s, r1, r2, r3, r4, r5⟩ => by
    rcases r5 with r5 | ⟨d', s', hss, hf, hq⟩
    · exact ⟨v, M', d, s, r1, r2, r3, r4, r5⟩
    · obtain ⟨M'', hM, hS, hD⟩ := hf.goes r3 hss r4
      exact ⟨v, M'', d', s', r1, r2.trans hM, hS, hD, hq⟩

/-- What hands back this, and leaves the store. -/
def Is (r : D) (σ : Store) (d : D) (s : Store) : Prop := d = r ∧ s = σ
theorem Ret.of {f : FuncId} {ds : List D} {r : D} (h : ∀ σ, HCalls P f ds σ fun d s => d = r ∧ s = σ) : Ret P f ds r := fun σ Q hq => (h σ).mono fun d s ⟨h1, h2⟩ => by subst h1 h2; exact hq
theorem isTrue_of {b : Bool} (h : b = true) : b = true := h
theorem dec_t {p : Prop} [Decidable p] (h : decide p = true) : p := of_decide_eq_true h
theorem dec_f {p : Prop} [Decidable p] (h : decide p = false) : ¬ p := of_decide_eq_false h

/-! ### Lists of structs: a slice as it is read -/
theorem flat_length {α : Type} (f : α → List D) (k : Nat) (hf : ∀ a, (f a).length = k) (l : List α) : (l.map f).flatten.length = l.length * k := by
  induction l with
  | nil => simp
  | cons a l ih => simp only [List.map_cons, List.flatten_cons, List.length_append, ih, hf, List.length_cons, Nat.succ_mul]; omega
theorem flat_part {α : Type} (f : α → List D) (k : Nat) (hf : ∀ a, (f a).length = k) (rest : List D) (l : List α) (i : Nat) (a : α) (h : l[i]? = some a) : (((l.map f).flatten ++ rest).drop (i * k)).take k = f a := by
  induction l generalizing i with
  | nil => simp at h
  | cons x l ih =>
    cases i with
    | zero =>
      simp only [List.getElem?_cons_zero, Option.some.injEq] at h
      subst h
      simp only [List.map_cons, List.flatten_cons, Nat.zero_mul, List.drop_zero, List.append_assoc]
      rw [← hf x, List.take_left']; rfl
    | succ i =>
      simp only [List.getElem?_cons_succ] at h
      have := ih i h
      simp only [List.map_cons, List.flatten_cons, List.append_assoc]
      rw [Nat.succ_mul, Nat.add_comm, ← hf x, ← List.drop_drop, List.drop_left' rfl, hf x]
      exact this
theorem flat_drop {α : Type} (f : α → List D) (k : Nat) (hf : ∀ a, (f a).length = k) (rest : List D) (l : List α) (i : Nat) (h : i ≤ l.length) : ((l.map f).flatten ++ rest).drop (i * k) = ((l.drop i).map f).flatten ++ rest := by
  induction l generalizing i with
  | nil => simp at h; subst h; simp
  | cons x l ih =>
    cases i with
    | zero => simp
    | succ i =>
      simp only [List.map_cons, List.flatten_cons, List.append_assoc, List.drop_succ_cons]
      rw [Nat.succ_mul, Nat.add_comm, ← hf x, ← List.drop_drop, List.drop_left' rfl, hf x]
      exact ih i (by simpa using h)
theorem flat_take {α : Type} (f : α → List D) (k : Nat) (hf : ∀ a, (f a).length = k) (rest : List D) (l : List α) (i : Nat) (h : i ≤ l.length) : ((l.map f).flatten ++ rest).take (i * k) = ((l.take i).map f).flatten := by
  induction l generalizing i with
  | nil => simp at h; subst h; simp
  | cons x l ih =>
    cases i with
    | zero => simp
    | succ i =>
      simp only [List.map_cons, List.flatten_cons, List.append_assoc, List.take_succ_cons]
      rw [Nat.succ_mul, Nat.add_comm, ← hf x, List.take_append, ← ih i (by simpa using h), hf x]
      simp [List.take_of_length_le, hf x]
theorem flat_spl {α : Type} (f : α → List D) (k : Nat) (hf : ∀ a, (f a).length = k) (rest : List D) (l : List α) (i : Nat) (a : α) (h : i < l.length) : spl ((l.map f).flatten ++ rest) (i * k) (f a) = ((l.set i a).map f).flatten ++ rest := by
  unfold spl
  rw [flat_take f k hf rest l i (by omega), hf a]
  have : i * k + k = (i + 1) * k := by rw [Nat.succ_mul]
  rw [this, flat_drop f k hf rest l (i + 1) (by omega)]
  rw [List.set_eq_take_append_cons_drop, if_pos h]
  simp
theorem chunk_flat {α : Type} (f : α → List D) (k : Nat) (hf : ∀ a, (f a).length = k) (rest : List D) (l : List α) : chunk l.length k ((l.map f).flatten ++ rest) = l.map f := by
  induction l with
  | nil => rfl
  | cons x l ih =>
    simp only [List.length_cons, chunk, List.map_cons, List.flatten_cons, List.append_assoc]
    rw [← hf x, List.take_left' rfl, List.drop_left' rfl, hf x, ih]
theorem wrap_nat (n : Nat) (h : n ≤ 9223372036854775807) : IntKind.i64.wrap (n : Int) = n := wrap_i64 _ (by omega) (by omega)
theorem wrap_succ (n : Nat) (h : n + 1 ≤ 9223372036854775807) : IntKind.i64.wrap ((n : Int) + 1) = ((n + 1 : Nat) : Int) := by rw [wrap_i64] <;> omega

/-- A slice of structs as it is read: a list, or a block's head. -/
inductive View {α : Type} (f : α → List D) (k : Nat) (σ : Store) (l : List α) : D → Prop
  | list (tok : Tok) : View f k σ l (.list (l.map f) tok)
  | cells (b c : Nat) (rest : List D) (e : σ b = some (.cells ((l.map f).flatten ++ rest))) : View f k σ l (.lit (.slice (some ⟨b, 0, none⟩) l.length c))
/-- Where the first is that is so. -/
def idx {α : Type} (p : α → Bool) (l : List α) : Int := if l.any p then (l.findIdx p : Int) else -1
theorem idx_at {α : Type} {p : α → Bool} {l : List α} {i : Nat} {a : α} (h : l[i]? = some a) (hp : p a = true) (hn : ∀ j, j < i → ∀ x, l[j]? = some x → p x = false) : idx p l = i := by
  obtain ⟨hi, rfl⟩ := List.getElem?_eq_some_iff.1 h
  have h1 : l.any p = true := List.any_eq_true.2 ⟨_, List.getElem_mem hi, hp⟩
  have h2 : l.findIdx p = i := (List.findIdx_eq hi).2 ⟨hp, fun j hj => by simpa using hn j hj _ (List.getElem?_eq_getElem (by omega))⟩
  simp [idx, h1, h2]
theorem idx_none {α : Type} {p : α → Bool} {l : List α} (hn : ∀ j, j < l.length → ∀ x, l[j]? = some x → p x = false) : idx p l = -1 := by
  have h1 : l.any p = false := by
    rw [List.any_eq_false]
    intro x hx
    obtain ⟨j, hj, rfl⟩ := List.mem_iff_getElem.1 hx
    have := hn j hj _ (List.getElem?_eq_getElem hj)
    simp [this]
  simp [idx, h1]
theorem idx_range {α : Type} (p : α → Bool) (l : List α) : (idx p l = -1 ∧ l.any p = false) ∨ (0 ≤ idx p l ∧ idx p l < l.length ∧ l.any p = true) := by
  unfold idx
  cases h : l.any p with
  | false => simp
  | true =>
    right
    have : l.findIdx p < l.length := List.findIdx_lt_length_of_exists (by simpa using h)
    simp only [if_true]
    exact ⟨by omega, by omega, trivial⟩

theorem zrep_len (n : Nat) (z : List D) : (zrep n z).length = n * z.length := by
  induction n with
  | zero => simp
  | succ n ih => simp [ih, Nat.succ_mul]; omega
/-- A slice of structs that is the caller's alone: nil, or a block of its own. -/
inductive Own {α : Type} (f : α → List D) (k : Nat) (σ : Store) (l : List α) : D → Store → Prop
  | nil (h : l = []) : Own f k σ l (.list [] .nil) σ
  | cells (b c : Nat) (rest : List D) (hb : σ b = none) (hc : l.length ≤ c) (hm : c ≤ 9223372036854775807) (hr : rest.length = (c - l.length) * k) : Own f k σ l (.lit (.slice (some ⟨b, 0, none⟩) l.length c)) (σ.set b (.cells ((l.map f).flatten ++ rest)))
theorem Own.le {α : Type} {f : α → List D} {k : Nat} {σ s : Store} {l : List α} {d : D} (h : Own f k σ l d s) : SLe σ s := by
  cases h with
  | nil => exact SLe.refl σ
  | cells b c rest hb => exact (SLe.refl σ).set hb _
theorem Own.view {α : Type} {f : α → List D} {k : Nat} {σ s : Store} {l : List α} {d : D} (h : Own f k σ l d s) : View f k s l d := by
  cases h with
  | nil h => subst h; exact .list .nil
  | cells b c rest hb => exact .cells b c rest (by simp)
/-- What is owned, told as a list. -/
theorem Own.freeze {α : Type} {f : α → List D} {k : Nat} (hf : ∀ a, (f a).length = k) {σ s : Store} {l : List α} {d : D} (h : Own f k σ l d s) : d = .list (l.map f) .nil ∧ s = σ ∨ ∃ d' s', SLe s' s ∧ Frz s' s d d' ∧ d' = .list (l.map f) .ro ∧ s' = σ := by
  cases h with
  | nil h => subst h; exact .inl ⟨rfl, rfl⟩
  | cells b c rest hb hc hm hr =>
    refine .inr ⟨_, σ, (SLe.refl σ).set hb _, .slice b 0 l.length c k ((l.map f).flatten ++ rest) (by simp) hb ?_ hc hm, ?_, rfl⟩
    · rw [List.length_append, flat_length f k hf]; omega
    · rw [List.drop_zero, chunk_flat f k hf]
theorem SLe_over {σ : Store} {b b2 : Nat} (hb2 : σ b2 = none) (hne : b2 ≠ b) (A B C : HObj) : SLe (σ.set b C) (((σ.set b A).set b2 B).set b C) := by
  intro x o h
  simp only [Store.set] at h ⊢
  by_cases h1 : x = b
  · simp_all
  · by_cases h2 : x = b2
    · subst h2; simp_all
    · simp_all
theorem SLe_drop2 {σ : Store} {b b2 : Nat} (hb2 : σ b2 = none) (hne : b2 ≠ b) (A B : HObj) : SLe (σ.set b A) ((σ.set b A).set b2 B) := (SLe.refl _).set (by simp [hne, hb2]) B
/-- Another store is as big, and the same is put into both. -/
theorem SLe_drop {σ σ' : Store} (h : SLe σ σ') (b : Nat) {A : HObj} : SLe (σ.set b A) (σ'.set b A) := by
  intro x o e
  simp only [Store.set] at e ⊢
  by_cases h1 : x = b
  · simp_all
  · simp only [h1, if_false] at e ⊢; exact h x o e
theorem SLe.none {σ σ' : Store} (h : SLe σ σ') {b : Nat} (hb : σ' b = none) : σ b = none := by
  cases e : σ b with
  | none => rfl
  | some o => rw [h b o e] at hb; cases hb
theorem Own.drop {α : Type} {f : α → List D} {k : Nat} {σ σ' s : Store} {l : List α} {d : D} (h : Own f k σ' l d s) (hs : SLe σ σ') : ∃ s', SLe s' s ∧ Own f k σ l d s' := by
  cases h with
  | nil h => exact ⟨σ, hs, .nil h⟩
  | cells b c rest hb hc hm hr => exact ⟨_, SLe_drop hs b, .cells b c rest (hs.none hb) hc hm hr⟩
/-- A call whose answer is owned, told as a list. -/
theorem HCalls.frozen {α : Type} {f : α → List D} {k : Nat} (hf : ∀ a, (f a).length = k) {g : FuncId} {ds : List D} {l : List α} (h : HCalls P g ds σ fun d s => Own f k σ l d s) : HCalls P g ds σ fun d s => (∃ tok, (tok = .ro ∨ tok = .nil) ∧ d = .list (l.map f) tok) ∧ s = σ :=
  HCalls.freeze (h.mono fun d s ho => by
    rcases ho.freeze hf with ⟨rfl, rfl⟩ | ⟨d', s', h1, h2, rfl, rfl⟩
    · exact .inl ⟨⟨_, .inr rfl, rfl⟩, rfl⟩
    · exact .inr ⟨_, _, h1, h2, ⟨⟨_, .inl rfl, rfl⟩, rfl⟩⟩)
theorem Own.sized {α : Type} {f : α → List D} {k : Nat} {s : Store} {l : List α} {d : D} (h : Own f k σ l d s) : SizedAs d k := by
  cases h with
  | nil h => simp
  | cells b c rest => trivial
theorem Own.capOk {α : Type} {f : α → List D} {k : Nat} {s : Store} {l : List α} {d : D} (h : Own f k σ l d s) : capOk d = true := by
  cases h with
  | nil h => rfl
  | cells b c rest hb hc => simpa using hc
/-- Appending to what is owned. -/
theorem Own.append {α : Type} {f : α → List D} {k : Nat} (hf : ∀ a, (f a).length = k) {s s2 : Store} {l : List α} {d : D} (ho : Own f k σ l d s) (hs : SLe s s2) {E : TI} {z : List D} (hk : E.size = k) (hz : E.zero = some z) (hzk : z.length = k) (xs : List α) {ds : List (List D)} (hds : ds = xs.map f)
    (h1 : (l.length + xs.length) * E.bytes ≤ 140737488355328) (h2 : l.length + xs.length ≤ 9223372036854775807) {K : D → Store → Prop} (hK : ∀ d' s' s3, SLe s3 s' → Own f k σ (l ++ xs) d' s3 → K d' s') : appA true E ds d s2 K := by
  subst hds
  have hsig : SLe σ s2 := ho.le.trans hs
  cases ho with
  | nil h =>
    subst h
    rw [appA_lm]
    refine ⟨⟨by simpa using h1, by simpa using h2⟩, rfl, fun e => ?_, fun e z' hz' b c hb hc hm => ?_⟩
    · have : xs = [] := by simpa using e
      subst this
      exact hK _ _ _ hs (.nil rfl)
    · rw [hz] at hz'; injection hz' with hz'; subst hz'
      simp only [List.length_nil, Nat.zero_add, List.flatten_nil, List.nil_append, List.length_map] at hc ⊢
      have := Own.cells (f := f) (k := k) (l := xs) b c (zrep (c - xs.length) z) (hsig.none hb) hc hm (by rw [zrep_len, hzk])
      exact hK _ _ _ (SLe_drop hsig b) this
  | cells b c rest hb hc hm hr =>
    have e : s2 b = some (.cells ((l.map f).flatten ++ rest)) := hs _ _ (by simp)
    rw [appA_lit, e, appL_cells]
    have hfl : ((l.map f).flatten ++ rest).length = c * k := by
      rw [List.length_append, flat_length f k hf, hr, ← Nat.add_mul]; congr 1; omega
    refine ⟨⟨hc, by rw [hk, hfl]; omega, by simpa using h1, by simpa using h2⟩, fun h3 => ?_, fun h3 z' hz' b' c' hb' h4 h5 => ?_⟩
    · simp only [List.length_map] at h3 ⊢
      have hl : (l ++ xs).length = l.length + xs.length := List.length_append
      have := Own.cells (f := f) (k := k) (l := l ++ xs) b c (rest.drop (xs.length * k)) hb (by omega) hm (by
        rw [List.length_drop, hr, hl, ← Nat.mul_sub_right_distrib]; congr 1; omega)
      rw [hl] at this
      refine hK _ _ _ (SLe_drop hsig b) ?_
      have key : spl ((l.map f).flatten ++ rest) (0 + l.length * E.size) (xs.map f).flatten = ((l ++ xs).map f).flatten ++ rest.drop (xs.length * k) := by
        rw [hk, Nat.zero_add]
        unfold spl
        rw [flat_take f k hf rest l l.length (Nat.le_refl _), List.take_length, flat_length f k hf]
        have e1 : l.length * k = (l.map f).flatten.length := by rw [flat_length f k hf]
        rw [e1, ← List.drop_drop, List.drop_left' rfl]
        simp
      rw [key]; exact this
    · rw [hz] at hz'; injection hz' with hz'; subst hz'
      rw [List.length_map] at h3 h4 ⊢
      have hl : (l ++ xs).length = l.length + xs.length := List.length_append
      have := Own.cells (f := f) (k := k) (l := l ++ xs) b' c' (zrep (c' - (l.length + xs.length)) z) (hsig.none hb') (by omega) h5 (by rw [zrep_len, hzk, hl])
      rw [hl] at this
      refine hK _ _ _ (SLe_drop hsig b') ?_
      have key : ((((l.map f).flatten ++ rest).drop 0).take (l.length * E.size) ++ (xs.map f).flatten ++ zrep (c' - (l.length + xs.length)) z) = ((l ++ xs).map f).flatten ++ zrep (c' - (l.length + xs.length)) z := by
        rw [hk, List.drop_zero, flat_take f k hf rest l l.length (Nat.le_refl _), List.take_length]
        simp
      rw [key]; exact this
end Go.HL
