/- HL, part O: operations that may come up in any order: what depends on what. -/
import Derived.Test.YtdbbbhjajkobaabHLK
set_option linter.unusedVariables false
set_option linter.unusedSimpArgs false
namespace Go.HL
open Go.RowKit
variable {P : Program} {lm : Bool} {σ : Store}

/-- What is asked hangs on one answer alone. -/
def One (f : Store → (D → Prop) → Prop) (σ : Store) (d : D) : Prop := (∀ σ' K, SLe σ σ' → K d → f σ' K) ∧ ∀ K, f σ K → K d
theorem One.at {A : Prop} {f : Store → (D → Prop) → Prop} {σ : Store} {d : D} (hA : A) (hf : ∀ σ' K, SLe σ σ' → (f σ' K ↔ A ∧ K d)) : One f σ d :=
  ⟨fun σ' K hs hk => (hf σ' K hs).2 ⟨hA, hk⟩, fun K h => ((hf σ K (SLe.refl σ)).1 h).2⟩

theorem hcond_one {d : D} {x y : D} {s : Store} {K0 : D → Prop} (h : hcond d (K0 x) (K0 y)) : ∃ z, One (fun _ K => hcond d (K x) (K y)) s z := by
  unfold hcond at h
  split at h
  · rename_i t
    cases t with
    | true => exact ⟨x, fun _ K _ hk => by simpa [hcond] using hk, fun K h => by simpa [hcond] using h⟩
    | false => exact ⟨y, fun _ K _ hk => by simpa [hcond] using hk, fun K h => by simpa [hcond] using h⟩
  · exact h.elim
theorem hload_one {T : TI} {a : D} {K0 : D → Prop} (h : hload T a σ K0) : ∃ z, One (fun σ K => hload T a σ K) σ z := by
  unfold hload at h
  split at h
  · rename_i b o
    split at h
    · rename_i ds e
      exact ⟨_, One.at h.1 fun σ' K hs => by simp only [hload, hs _ _ e]; exact Iff.rfl⟩
    · exact h.elim
  · exact ⟨_, One.at h.1 fun σ' K hs => by simp only [hload]; exact Iff.rfl⟩
  · exact h.elim
theorem eqBin_one {op : BinOp} {r : Bool} {K0 : D → Prop} (h : eqBin op r K0) : ∃ z, One (fun _ K => eqBin op r K) σ z := by
  cases op <;> first | exact ⟨_, One.at trivial fun _ K _ => by simp only [eqBin, true_and]; exact Iff.rfl⟩ | exact h.elim
theorem intBin_one {op : BinOp} {k : IntKind} {a b : Int} {K0 : D → Prop} (h : intBin op k a b K0) : ∃ z, One (fun _ K => intBin op k a b K) σ z := by
  cases op <;> first
    | exact ⟨_, One.at trivial fun _ K _ => by simp only [intBin, true_and]; exact Iff.rfl⟩
    | exact ⟨_, One.at h.1 fun _ K _ => by simp only [intBin]; exact Iff.rfl⟩
    | exact h.elim
theorem strBin_one {op : BinOp} {a b : ByteArray} {K0 : D → Prop} (h : strBin op a b K0) : ∃ z, One (fun _ K => strBin op a b K) σ z := by
  cases op <;> first
    | exact ⟨_, One.at trivial fun _ K _ => by simp only [strBin, true_and]; exact Iff.rfl⟩
    | exact ⟨_, One.at h.1 fun _ K _ => by simp only [strBin]; exact Iff.rfl⟩
    | exact h.elim
theorem shBin_one {op : BinOp} {k : IntKind} {a b : Int} {K0 : D → Prop} (h : shBin op k a b K0) : ∃ z, One (fun _ K => shBin op k a b K) σ z := by
  cases op <;> first
    | exact ⟨_, One.at h.1 fun _ K _ => by simp only [shBin]; exact Iff.rfl⟩
    | exact h.elim
theorem One.and {A : Prop} {f g : Store → (D → Prop) → Prop} {σ : Store} {d : D} (hA : A) (hf : ∀ σ K, g σ K ↔ A ∧ f σ K) (h : One f σ d) : One g σ d :=
  ⟨fun σ' K hs hk => (hf σ' K).2 ⟨hA, h.1 σ' K hs hk⟩, fun K hk => h.2 K ((hf σ K).1 hk).2⟩
theorem One.same {f g : Store → (D → Prop) → Prop} {σ : Store} {d : D} (hf : ∀ σ K, g σ K ↔ f σ K) (h : One f σ d) : One g σ d :=
  ⟨fun σ' K hs hk => (hf σ' K).2 (h.1 σ' K hs hk), fun K hk => h.2 K ((hf σ K).1 hk)⟩
theorem hbin_one {op : BinOp} {t : TypeId} {T : TI} {c : Bool} {a b : D} {K0 : D → Prop} (hT : T.kk.isSlice = false) (h : hbin P op t T c a b K0) : ∃ z, One (fun _ K => hbin P op t T c a b K) σ z := by
  unfold hbin at h
  split at h
  · split at h
    · rename_i hs
      obtain ⟨z, hz⟩ := shBin_one (σ := σ) h
      exact ⟨z, hz.same fun σ K => by simp only [hbin, hs, if_true]⟩
    · rename_i hs
      obtain ⟨z, hz⟩ := intBin_one (σ := σ) h.2
      exact ⟨z, hz.and h.1 fun σ K => by simp only [hbin, hs]; simp⟩
  · obtain ⟨z, hz⟩ := strBin_one (σ := σ) h
    exact ⟨z, hz.same fun σ K => by simp only [hbin]⟩
  · obtain ⟨z, hz⟩ := eqBin_one (σ := σ) h.2
    exact ⟨z, hz.and h.1 fun σ K => by simp only [hbin]⟩
  · obtain ⟨z, hz⟩ := eqBin_one (σ := σ) h.2
    exact ⟨z, hz.and h.1 fun σ K => by simp only [hbin]⟩
  · obtain ⟨z, hz⟩ := eqBin_one (σ := σ) h.2
    exact ⟨z, hz.and h.1 fun σ K => by simp only [hbin]⟩
  · obtain ⟨z, hz⟩ := eqBin_one (σ := σ) h.2
    exact ⟨z, hz.and h.1 fun σ K => by simp only [hbin]⟩
  · obtain ⟨z, hz⟩ := eqBin_one (σ := σ) h.2
    exact ⟨z, hz.and h.1 fun σ K => by simp only [hbin]⟩
  · obtain ⟨z, hz⟩ := eqBin_one (σ := σ) h.2
    exact ⟨z, hz.and h.1 fun σ K => by simp only [hbin]⟩
  · obtain ⟨z, hz⟩ := eqBin_one (σ := σ) h.2
    exact ⟨z, hz.and h.1 fun σ K => by simp only [hbin]⟩
  · obtain ⟨z, hz⟩ := eqBin_one (σ := σ) h.2
    exact ⟨z, hz.and h.1 fun σ K => by simp only [hbin]⟩
  · rw [hT] at h; cases h.1
  · rename_i xs ys
    split at h
    · rename_i r hr
      obtain ⟨z, hz⟩ := eqBin_one (σ := σ) h
      exact ⟨z, hz.same fun σ K => by simp only [hbin, hr]⟩
    · exact h.elim
  · exact h.elim
theorem hun_one {op : UnOp} {x : D} {K0 : D → Prop} (h : hun op x K0) : ∃ z, One (fun _ K => hun op x K) σ z := by
  unfold hun at h
  split at h
  · exact ⟨_, One.at trivial fun _ K _ => by simp only [hun, true_and]; exact Iff.rfl⟩
  · exact ⟨_, One.at trivial fun _ K _ => by simp only [hun, true_and]; exact Iff.rfl⟩
  · exact h.elim
theorem bytesD_inj {a b : ByteArray} (h : bytesD a = bytesD b) : a = b := by
  unfold bytesD at h
  have : a.data.toList = b.data.toList := by
    refine List.map_inj_right ?_ |>.1 h
    intro x y hxy
    simp only [List.cons.injEq, D.lit.injEq, Value.int.injEq, true_and, and_true] at hxy
    exact UInt8.toNat_inj.1 (by omega)
  cases a; cases b
  simp only [ByteArray.mk.injEq]
  exact Array.ext' this
theorem hconv_one {S T : TI} {x : D} {K0 : D → Prop} (h : hconv P S T x K0) : ∃ z, One (fun _ K => hconv P S T x K) σ z := by
  unfold hconv at h
  split at h
  · split at h
    · rename_i hk
      exact ⟨_, One.at trivial fun _ K _ => by simp only [hconv, hk, true_and]; exact Iff.rfl⟩
    · exact h.elim
  · rename_i s
    obtain ⟨h1, h2, h3, h4⟩ := h
    by_cases hs : T.kk.isStr = true
    · have hb : T.kk.bytes P = false := by
        have : T.kk = .str := by
          revert hs; cases T.kk <;> simp [KK.isStr]
        rw [this]; rfl
      exact ⟨.str s, One.at (A := S.kk.isStr = true) h1 fun _ K _ => by simp [hconv, hs, hb, h1]⟩
    · have hb : T.kk.bytes P = true := by rcases h4 with h4 | h4 <;> simp_all
      simp only [Bool.not_eq_true] at hs
      exact ⟨.list (bytesD s) .ro, One.at (A := S.kk.isStr = true) h1 fun _ K _ => by simp [hconv, hs, hb, h1]⟩
  · rename_i es _
    obtain ⟨h1, s, rfl, h3⟩ := h
    refine ⟨.str s, fun _ K _ hk => ⟨h1, s, rfl, hk⟩, fun K hk => ?_⟩
    obtain ⟨-, s', e, hk⟩ := hk
    rw [bytesD_inj e]; exact hk
  · exact h.elim
theorem hiface_one {T : TI} {t : TypeId} {x : D} {K0 : D → Prop} (h : hiface T t x K0) : ∃ z, One (fun _ K => hiface T t x K) σ z := by
  unfold hiface at h
  split at h
  · exact ⟨_, One.at h.1 fun _ K _ => by simp only [hiface]; exact Iff.rfl⟩
  · exact h.elim
theorem hbuild_one {T : TI} {l : List (Nat × D)} {K0 : D → Prop} (h : hbuild T l K0) : ∃ z, One (fun _ K => hbuild T l K) σ z := by
  unfold hbuild at h
  split at h
  · rename_i z e1 e2
    split at h
    · rename_i ds e
      exact ⟨.agg ds, One.at trivial fun _ K _ => by simp only [hbuild, e1, e2, e, true_and]⟩
    · exact h.elim
  · exact h.elim
theorem hfield_one {T : TI} {x : D} {f : Nat} {K0 : D → Prop} (h : hfield T x f K0) : ∃ z, One (fun _ K => hfield T x f K) σ z := by
  unfold hfield at h
  split at h
  · rename_i e
    exact ⟨_, One.at h.1 fun _ K _ => by simp only [hfield, e]; exact Iff.rfl⟩
  · exact h.elim
theorem hfieldAddr_one {T : TI} {x : D} {f : Nat} {K0 : D → Prop} (h : hfieldAddr T x f K0) : ∃ z, One (fun _ K => hfieldAddr T x f K) σ z := by
  unfold hfieldAddr at h
  split at h
  · rename_i e
    obtain ⟨h0, h⟩ := h
    split at h
    · exact ⟨_, One.at h0 fun _ K _ => by simp only [hfieldAddr, e]; exact Iff.rfl⟩
    · exact ⟨_, One.at (A := _ ∧ _) ⟨h0, h.1⟩ fun _ K _ => by simp only [hfieldAddr, e, and_assoc]; exact Iff.rfl⟩
    · exact h.elim
  · exact h.elim
theorem hindexAddr_one {n : Nat} {x i : D} {K0 : D → Prop} (h : hindexAddr n x i K0) : ∃ z, One (fun _ K => hindexAddr n x i K) σ z := by
  unfold hindexAddr at h
  split at h
  · exact ⟨_, One.at h.1 fun _ K _ => by simp only [hindexAddr]; exact Iff.rfl⟩
  · exact ⟨_, One.at h.1 fun _ K _ => by simp only [hindexAddr]; exact Iff.rfl⟩
  · exact h.elim
theorem hindex_one {x i : D} {K0 : D → Prop} (h : hindex x i K0) : ∃ z, One (fun _ K => hindex x i K) σ z := by
  unfold hindex at h
  split at h
  · exact ⟨_, One.at h.1 fun _ K _ => by simp only [hindex]; exact Iff.rfl⟩
  · exact h.elim
theorem hslice_one {n : Nat} {x : D} {lo hi : Option D} {K0 : D → Prop} (h : hslice n x lo hi K0) : ∃ z, One (fun _ K => hslice n x lo hi K) σ z := by
  unfold hslice at h
  split at h <;> first
    | (split at h
       · rename_i e1 e2; exact ⟨_, One.at h.1 fun _ K _ => by simp only [hslice, e1, e2]; exact Iff.rfl⟩
       · exact h.elim)
    | exact h.elim
theorem hslice3_mono {n : Nat} {x : D} {lo : Option D} {hi mx : D} {K K' : D → Prop} (hk : ∀ d, K d → K' d) (h : hslice3 n x lo hi mx K) : hslice3 n x lo hi mx K' := by
  unfold hslice3 at h ⊢
  split at h
  · split at h
    · exact ⟨h.1, hk _ h.2⟩
    · exact h.elim
  · exact h.elim
theorem entriesOf_mono {x : D} {σ σ' : Store} (hs : SLe σ σ') {es : List (ByteArray × Value)} (h : entriesOf x σ = some es) : entriesOf x σ' = some es := by
  unfold entriesOf at h ⊢
  split at h
  · rename_i r
    split at h
    · rename_i es' e
      simp only [hs _ _ e]; exact h
    · cases h
  · exact h
  · cases h
theorem hlookup_one {T E : TI} {x i : D} {ok : Bool} {K0 : D → Prop} (h : hlookup P T E x i ok σ K0) : ∃ z, One (fun σ K => hlookup P T E x i ok σ K) σ z := by
  unfold hlookup at h
  split at h
  · rename_i es s z e1 e2
    exact ⟨_, One.at h.1 fun σ' K hs => by simp only [hlookup, entriesOf_mono hs e1, e2]; exact Iff.rfl⟩
  · exact h.elim
theorem hextract_one {x : D} {i : Nat} {K0 : D → Prop} (h : hextract x i K0) : ∃ z, One (fun _ K => hextract x i K) σ z := by
  unfold hextract at h
  split at h
  · split at h
    · rename_i y e
      exact ⟨y, One.at trivial fun _ K _ => by simp only [hextract, e, true_and]⟩
    · exact h.elim
  · exact h.elim
theorem hnil_one {x : D} {K0 : D → Prop} (h : hnil x K0) : ∃ z, One (fun _ K => hnil x K) σ z := by
  unfold hnil at h
  split at h <;> first
    | exact ⟨_, One.at trivial fun _ K _ => by simp only [hnil, true_and]; exact Iff.rfl⟩
    | exact h.elim
theorem hlen_one {T : TI} {x : D} {K0 : D → Prop} (h : hlen T x σ K0) : ∃ z, One (fun σ K => hlen T x σ K) σ z := by
  unfold hlen at h
  split at h
  · exact ⟨_, One.at h.1 fun _ K _ => by simp only [hlen]; exact Iff.rfl⟩
  · exact ⟨_, One.at h.1 fun _ K _ => by simp only [hlen]; exact Iff.rfl⟩
  · exact ⟨_, One.at h.1 fun _ K _ => by simp only [hlen]; exact Iff.rfl⟩
  · split at h
    · rename_i es e
      exact ⟨_, One.at h.1 fun σ' K hs => by simp only [hlen, entriesOf_mono hs e]; exact Iff.rfl⟩
    · exact h.elim
  · exact h.elim
theorem hminmax_one {mx : Bool} {l : List D} {K0 : D → Prop} (h : hminmax mx l K0) : ∃ z, One (fun _ K => hminmax mx l K) σ z := by
  unfold hminmax at h
  split at h
  · exact ⟨_, One.at trivial fun _ K _ => by simp only [hminmax, true_and]; exact Iff.rfl⟩
  · exact h.elim

/-! ### Operations -/
def notSlice (P : Program) (t : TypeId) : Bool := match tx P t with
  | some X => !X.T.kk.isSlice
  | none => false
/-- Its value hangs on its operands and on what stands written, and it leaves no trace. -/
def calm (P : Program) (lm : Bool) (o : Op) : Bool := match o with
  | .move _ | .assign _ | .pick _ _ _ | .build _ _ | .load _ _ | .nilCheck _ | .unOp _ _ _ | .convert _ _ _ | .makeInterface _ _ | .makeFunc _ _ _ | .fieldAddr _ _ _ | .field _ _ _ | .indexAddr _ _ _ | .index _ _ _ | .lookup _ _ _ _ | .extract _ _ => true
  | .slice _ _ _ _ none => true
  | .buildSlice _ _ _ => !lm
  | .binOp _ t _ _ _ => notSlice P t
  | .call c => match c.callee with
    | .builtin .len | .builtin .min | .builtin .max => true
    | _ => false
  | _ => false

theorem wtx_one {t : TypeId} {f : TX → Store → (D → Prop) → Prop} {K0 : D → Prop} (h : wtx P t (fun X => f X σ K0)) (hf : ∀ X, tx P t = some X → f X σ K0 → ∃ z, One (f X) σ z) : ∃ z, One (fun σ K => wtx P t (fun X => f X σ K)) σ z := by
  obtain ⟨X, hX, h⟩ := wtx_inv h
  obtain ⟨z, hz⟩ := hf X hX h
  exact ⟨z, hz.same fun σ K => by unfold wtx; rw [hX]⟩
theorem wel_one {T : TI} {f : TX → Store → (D → Prop) → Prop} {K0 : D → Prop} (h : wel P T (fun X => f X σ K0)) (hf : ∀ X, f X σ K0 → ∃ z, One (f X) σ z) : ∃ z, One (fun σ K => wel P T (fun X => f X σ K)) σ z := by
  obtain ⟨e, X, hk, hX, h⟩ := wel_inv h
  obtain ⟨z, hz⟩ := hf X h
  exact ⟨z, hz.same fun σ K => by unfold wel; rw [hk]; simp only [wtx, hX]⟩
theorem and_one {A : Prop} {f : Store → (D → Prop) → Prop} {K0 : D → Prop} (h : A ∧ f σ K0) (hf : f σ K0 → ∃ z, One f σ z) : ∃ z, One (fun σ K => A ∧ f σ K) σ z := by
  obtain ⟨z, hz⟩ := hf h.2
  exact ⟨z, hz.and h.1 fun σ K => Iff.rfl⟩
theorem triv_one (d : D) : ∃ z, One (fun _ K => K d) σ z := ⟨d, One.at trivial fun _ K _ => by simp⟩
theorem hbuildSlice_one {E : TI} {n : Nat} {l : List (Nat × D)} {K0 : D → Prop} (h : hbuildSlice false E n l σ (fun d _ => K0 d)) : ∃ z, One (fun σ K => hbuildSlice false E n l σ (fun d _ => K d)) σ z := by
  unfold hbuildSlice at h
  split at h
  · rename_i z e
    obtain ⟨h1, h2, h⟩ := h
    split at h
    · rename_i ds e2
      exact ⟨_, One.at (A := _ ∧ _) ⟨h1, h2⟩ fun _ K _ => by simp only [hbuildSlice, e, e2, and_assoc]; exact Iff.rfl⟩
    · exact h.elim
  · exact h.elim

theorem hop_one {o : Op} {e : Env} {K0 : D → Prop} (hc : calm P lm o = true) (h : hop P lm o e σ (fun d _ => K0 d)) : ∃ z, One (fun σ K => hop P lm o e σ (fun d _ => K d)) σ z := by
  cases o with
  | move x => exact triv_one _
  | assign x => exact triv_one _
  | pick c a b => exact hcond_one (s := σ) h
  | build t parts => exact wtx_one (f := fun X σ K => (X.zf = true ∧ X.fk = true) ∧ hbuild X.T (parts.toList.map fun (p : Nat × Operand) => (p.1, ev e p.2)) K) h fun X _ h => and_one h fun h => hbuild_one h
  | buildSlice t n parts =>
    have : lm = false := by simpa [calm] using hc
    subst this
    exact wtx_one (f := fun X σ K => wel P X.T fun E => E.zf = true ∧ hbuildSlice false E.T n (parts.toList.map fun (p : Nat × Operand) => (p.1, ev e p.2)) σ (fun d _ => K d)) h fun X _ h => wel_one (f := fun E σ K => E.zf = true ∧ hbuildSlice false E.T n (parts.toList.map fun (p : Nat × Operand) => (p.1, ev e p.2)) σ (fun d _ => K d)) h fun E h => and_one h fun h => hbuildSlice_one h
  | load t a => exact wtx_one (f := fun X σ K => hload X.T (ev e a) σ K) h fun X _ h => hload_one h
  | nilCheck x => exact hnil_one h
  | unOp op t x => exact hun_one h
  | binOp op t x y u =>
    refine wtx_one (f := fun X σ K => hbin P op t X.T (isC x || isC y) (ev e x) (ev e y) K) h fun X hX h => hbin_one ?_ h
    simpa [calm, notSlice, hX] using hc
  | convert s t x => exact wtx_one (f := fun S σ K => wtx P t fun X => (SizedAs (ev e x) 1 ∧ ∀ y, ev e x = .str y → y.size ≤ 9223372036854775807) ∧ hconv P S.T X.T (ev e x) K) h fun S _ h => wtx_one (f := fun X σ K => (SizedAs (ev e x) 1 ∧ ∀ y, ev e x = .str y → y.size ≤ 9223372036854775807) ∧ hconv P S.T X.T (ev e x) K) h fun X _ h => and_one h fun h => hconv_one h
  | makeInterface t x => exact wtx_one (f := fun X σ K => hiface X.T t (ev e x) K) h fun X _ h => hiface_one h
  | makeFunc fn a b =>
    simp only [hop] at h ⊢
    split at h
    · exact triv_one _
    · exact h.elim
  | fieldAddr t x f => exact wtx_one (f := fun X σ K => hfieldAddr X.T (ev e x) f K) h fun X _ h => hfieldAddr_one h
  | field t x f => exact wtx_one (f := fun X σ K => hfield X.T (ev e x) f K) h fun X _ h => hfield_one h
  | indexAddr t x i => exact wtx_one (f := fun X σ K => wel P X.T fun E => SizedAs (ev e x) E.T.size ∧ hindexAddr E.T.size (ev e x) (ev e i) K) h fun X _ h => wel_one (f := fun E σ K => SizedAs (ev e x) E.T.size ∧ hindexAddr E.T.size (ev e x) (ev e i) K) h fun E h => and_one h fun h => hindexAddr_one h
  | index t x i => exact wtx_one (f := fun X σ K => X.T.kk.isStr = true ∧ hindex (ev e x) (ev e i) K) h fun X _ h => and_one h fun h => hindex_one h
  | lookup t x i ok => exact wtx_one (f := fun X σ K => wtx P (mapElem X.T.kk) fun E => E.zo = true ∧ hlookup P X.T E.T (ev e x) (ev e i) ok σ K) h fun X _ h => wtx_one (f := fun E σ K => E.zo = true ∧ hlookup P X.T E.T (ev e x) (ev e i) ok σ K) h fun E _ h => and_one h fun h => hlookup_one h
  | extract x i => exact hextract_one h
  | slice t x lo hi mx =>
    cases mx with
    | some _ => simp [calm] at hc
    | none =>
      simp only [hop] at h ⊢
      refine wtx_one (f := fun X σ K => match X.T.kk with
        | .str => (match ev e x with | .lit (.string _) => True | _ => False) ∧ hslice 0 (ev e x) (lo.map (ev e)) (hi.map (ev e)) K
        | .slice el => wtx P el fun E => (SizedAs (ev e x) E.T.size ∧ capOk (ev e x) = true) ∧ hslice E.T.size (ev e x) (lo.map (ev e)) (hi.map (ev e)) K
        | _ => False) h fun X _ h => ?_
      cases hk : X.T.kk with
      | str =>
        simp only [hk] at h ⊢
        obtain ⟨z, hz⟩ := hslice_one (σ := σ) h.2
        exact ⟨z, hz.and h.1 fun σ K => Iff.rfl⟩
      | slice el =>
        simp only [hk] at h ⊢
        exact wtx_one (f := fun E σ K => (SizedAs (ev e x) E.T.size ∧ capOk (ev e x) = true) ∧ hslice E.T.size (ev e x) (lo.map (ev e)) (hi.map (ev e)) K) h fun E _ h => and_one h fun h => hslice_one h
      | _ => simp only [hk] at h
  | call c =>
    obtain ⟨callee, args, ts⟩ := c
    cases callee with
    | builtin b =>
      cases b with
      | len =>
        simp only [hop, hbuiltin] at h ⊢
        split at h <;> try exact h.elim
        all_goals simp_all
        rename_i t d h1 h2
        exact wtx_one (f := fun X σ K => hlen X.T d σ K) h fun X _ h => hlen_one h
      | min =>
        simp only [hop, hbuiltin] at h ⊢
        exact hminmax_one h
      | max =>
        simp only [hop, hbuiltin] at h ⊢
        exact hminmax_one h
      | _ => simp [calm] at hc
    | _ => simp [calm] at hc
  | _ => simp [calm] at hc

theorem calm_at {o : Op} {e : Env} (hc : calm P lm o = true) (K : D → Store → Prop) : hop P lm o e σ K ↔ hop P lm o e σ (fun d _ => K d σ) := by
  cases o with
  | buildSlice t n parts =>
    have : lm = false := by simpa [calm] using hc
    subst this
    simp only [hop]
    unfold wtx wel hbuildSlice
    rfl
  | makeFunc fn a b => simp only [hop]
  | slice t x lo hi mx =>
    cases mx with
    | some _ => simp [calm] at hc
    | none => exact Iff.rfl
  | call c =>
    obtain ⟨callee, args, ts⟩ := c
    cases callee with
    | builtin b =>
      cases b <;> first
        | (simp [calm] at hc; done)
        | (simp only [hop]; unfold hbuiltin; split <;> first | exact Iff.rfl | simp_all)
    | _ => simp [calm] at hc
  | move | assign | pick | build | load | nilCheck | unOp | binOp | convert | makeInterface | fieldAddr | field | indexAddr | index | lookup | extract => exact Iff.rfl
  | _ => simp [calm] at hc

theorem wtx_mono {t : TypeId} {f g : TX → Prop} (h : wtx P t f) (hf : ∀ X, f X → g X) : wtx P t g := by
  obtain ⟨X, hX, h⟩ := wtx_inv h
  unfold wtx; rw [hX]; exact hf X h
theorem wel_mono {T : TI} {f g : TX → Prop} (h : wel P T f) (hf : ∀ X, f X → g X) : wel P T g := by
  obtain ⟨e, X, hk, hX, h⟩ := wel_inv h
  unfold wel; rw [hk]; simp only [wtx, hX]; exact hf X h
theorem hbuildSlice_mono {E : TI} {n : Nat} {l : List (Nat × D)} {K K' : D → Store → Prop} (hk : ∀ d s, K d s → K' d s) (h : hbuildSlice lm E n l σ K) : hbuildSlice lm E n l σ K' := by
  unfold hbuildSlice at h ⊢
  split at h
  · obtain ⟨h1, h2, h⟩ := h
    refine ⟨h1, h2, ?_⟩
    split at h
    · cases lm with
      | true => exact fun b hb => hk _ _ (h b hb)
      | false => exact hk _ _ h
    · exact h.elim
  · exact h.elim
theorem hstore_mono {T : TI} {a x : D} {K K' : Store → Prop} (hk : ∀ s, K s → K' s) (h : hstore T a x σ K) : hstore T a x σ K' := by
  unfold hstore at h ⊢
  repeat' split at h
  all_goals first
    | exact h.elim
    | exact ⟨h.1, hk _ h.2⟩
theorem hmake_mono {T E : TI} {l c : D} {K K' : D → Store → Prop} (hk : ∀ d s, K d s → K' d s) (h : hmake T E l c σ K) : hmake T E l c σ K' := by
  unfold hmake at h ⊢
  split at h
  · exact ⟨h.1, fun b hb => hk _ _ (h.2 b hb)⟩
  · exact h.elim
theorem hmapUpdate_mono {T : TI} {x i y : D} {K K' : Store → Prop} (hk : ∀ s, K s → K' s) (h : hmapUpdate P T x i y σ K) : hmapUpdate P T x i y σ K' := by
  unfold hmapUpdate at h ⊢
  repeat' split at h
  all_goals first
    | exact h.elim
    | exact ⟨h.1, hk _ h.2⟩
theorem hclear_mono {E : TI} {d : D} {K K' : D → Store → Prop} (hk : ∀ d s, K d s → K' d s) (h : hclear E d σ K) : hclear E d σ K' := by
  unfold hclear at h ⊢
  split at h
  · split at h
    · rename_i e; rw [if_pos e]; exact hk _ _ h
    · rename_i e; rw [if_neg e]
      split at h
      · exact ⟨h.1, hk _ _ h.2⟩
      · exact h.elim
  · exact hk _ _ h
  · exact h.elim
theorem hcopy_mono {E : TI} {d x : D} {K K' : D → Store → Prop} (hk : ∀ d s, K d s → K' d s) (h : hcopy E d x σ K) : hcopy E d x σ K' := by
  unfold hcopy at h ⊢
  split at h
  · split at h
    · exact ⟨h.1, hk _ _ h.2⟩
    · exact h.elim
  · exact hk _ _ h
  · exact h.elim
theorem happend_mono {E : TI} {a x : D} {K K' : D → Store → Prop} (hk : ∀ d s, K d s → K' d s) (h : happend lm E a x σ K) : happend lm E a x σ K' := by
  unfold happend at h ⊢
  split at h
  · exact h.elim
  · obtain ⟨h0, h⟩ := h
    refine ⟨h0, ?_⟩
    split at h
    · obtain ⟨h1, h⟩ := h
      refine ⟨h1, ?_⟩
      cases lm with
      | true => exact ⟨h.1, fun e => hk _ _ (h.2.1 e), fun e z hz b c hb h1 h2 => hk _ _ (h.2.2 e z hz b c hb h1 h2)⟩
      | false =>
        simp only [Bool.false_eq_true, if_false] at h ⊢
        split at h
        · exact ⟨fun e => hk _ _ (h.1 e), fun e b c hb h1 => hk _ _ (h.2 e b c hb h1)⟩
        · exact ⟨fun e => hk _ _ (h.1 e), fun e b c hb h1 => hk _ _ (h.2 e b c hb h1)⟩
        · exact ⟨h.1, fun e => hk _ _ (h.2.1 e), fun e b c hb h1 => hk _ _ (h.2.2 e b c hb h1)⟩
        · exact h.elim
    · split at h
      · exact ⟨h.1, fun e => hk _ _ (h.2.1 e), fun e z hz b c hb h1 h2 => hk _ _ (h.2.2 e z hz b c hb h1 h2)⟩
      · exact h.elim
    · exact h.elim
theorem HExt.mono {f : FuncId} {ds : List D} {Q Q' : D → Store → Prop} (h : HExt P f ds σ Q) (hq : ∀ d σ', Q d σ' → Q' d σ') : HExt P f ds σ Q' := fun w0 M w vs a b c =>
  let ⟨v, w', M', d, σ', h1, h2, h3, h4, h5⟩ := h w0 M w vs a b c
  ⟨v, w', M', d, σ', h1, h2, h3, h4, hq d σ' h5⟩

theorem hop_mono {o : Op} {e : Env} {K K' : D → Store → Prop} (hk : ∀ d s, K d s → K' d s) (h : hop P lm o e σ K) : hop P lm o e σ K' := by
  by_cases hc : calm P lm o = true
  · rw [calm_at hc] at h ⊢
    obtain ⟨z, h1, h2⟩ := hop_one (K0 := fun d => K d σ) hc h
    exact h1 σ _ (SLe.refl σ) (hk _ _ (h2 _ h))
  · cases o with
    | alloc t =>
      refine wtx_mono h fun X h => ⟨h.1, ?_⟩
      have h := h.2
      split at h
      · exact fun b hb => hk _ _ (h b hb)
      · exact h.elim
    | box t v => exact ⟨h.1, fun b hb => hk _ _ (h.2 b hb)⟩
    | buildSlice t n parts => exact wtx_mono h fun X h => wel_mono h fun E h => ⟨h.1, hbuildSlice_mono hk h.2⟩
    | store t a x => exact wtx_mono h fun X h => hstore_mono (hk _) h
    | binOp op t x y u =>
      refine wtx_mono h fun X h => ?_
      unfold hbin at h ⊢
      have eb : ∀ op r, eqBin op r (K · σ) → eqBin op r (K' · σ) := fun op r h => by cases op <;> first | exact hk _ _ h | exact h.elim
      repeat' split at h
      all_goals first
        | exact h.elim
        | (exact ⟨h.1, eb _ _ h.2⟩)
        | (exact eb _ _ h)
        | (exact ⟨h.1, fun r h1 h2 => eb _ _ (h.2 r h1 h2)⟩)
        | (rename_i hs; rw [if_pos hs]; cases op <;> first | exact h.elim | exact ⟨h.1, hk _ _ h.2⟩)
        | (rename_i hs; rw [if_neg hs]; refine ⟨h.1, ?_⟩; have h := h.2; cases op <;> first | exact h.elim | exact ⟨h.1, hk _ _ h.2⟩ | exact hk _ _ h)
        | (cases op <;> first | exact h.elim | exact ⟨h.1, hk _ _ h.2⟩ | exact hk _ _ h)
    | makeMap t n =>
      cases n with
      | none => exact fun b hb => hk _ _ (h b hb)
      | some _ => exact h.elim
    | makeSlice t l c => exact wtx_mono h fun X h => wel_mono h fun E h => ⟨h.1, hmake_mono hk h.2⟩
    | mapUpdate t m k v => exact wtx_mono h fun X h => hmapUpdate_mono (hk _) h
    | call c =>
      obtain ⟨callee, args, ts⟩ := c
      cases callee with
      | builtin b =>
        simp only [hop] at h ⊢
        unfold hbuiltin at h ⊢
        split at h
        · simp [calm] at hc
        · exact wtx_mono h fun X h => wel_mono h fun E h => ⟨h.1, happend_mono hk h.2⟩
        · simp [calm] at hc
        · simp [calm] at hc
        · exact wtx_mono h fun X h => wel_mono h fun E h => ⟨h.1, hclear_mono hk h.2⟩
        · exact wtx_mono h fun X h => wel_mono h fun E h => ⟨h.1, hcopy_mono hk h.2⟩
        · exact h.elim
      | value f =>
        simp only [hop] at h ⊢
        split at h
        · split at h
          · rename_i e1; rw [if_pos e1]; exact HCalls.mono h hk
          · rename_i e1; rw [if_neg e1]; exact HExt.mono h hk
        · exact h.elim
      | _ => exact h.elim
    | slice t x lo hi mx =>
      cases mx with
      | none => simp [calm] at hc
      | some mx =>
        cases hi with
        | none => exact h.elim
        | some hi =>
          simp only [hop] at h ⊢
          refine wtx_mono h fun X h => ?_
          cases hkk : X.T.kk with
          | slice el =>
            simp only [hkk] at h ⊢
            exact wtx_mono h fun E h => hslice3_mono (fun d => hk d _) h
          | _ => simp only [hkk] at h
    | _ => first | exact h.elim | (simp [calm] at hc)

theorem ev_same {e e' : Env} {x : Operand} (h : ∀ t, x = .tmp t → e t = e' t) : ev e x = ev e' x := by
  cases x with
  | tmp t => exact h t rfl
  | _ => rfl
def tmpsOf (o : Op) : List Nat := o.operands.toList.filterMap fun x => match x with
  | .tmp t => some t
  | _ => none
theorem mem_tmpsOf {o : Op} {t : Nat} (h : Operand.tmp t ∈ o.operands) : t ∈ tmpsOf o := by
  simp only [tmpsOf, List.mem_filterMap]
  exact ⟨.tmp t, by simpa using h, rfl⟩
theorem hop_frame {o : Op} {e e' : Env} {K : D → Store → Prop} (h : ∀ t, t ∈ tmpsOf o → e t = e' t) : hop P lm o e σ K = hop P lm o e' σ K := by
  have hx : ∀ x, x ∈ o.operands → ev e x = ev e' x := fun x hx => ev_same fun t ht => h t (mem_tmpsOf (by subst ht; exact hx))
  have hm : ∀ l : List Operand, (∀ x ∈ l, x ∈ o.operands) → l.map (ev e) = l.map (ev e') := fun l hl => List.map_congr_left fun x hxl => hx x (hl x hxl)
  have hp : ∀ l : List (Nat × Operand), (∀ x ∈ l, x.2 ∈ o.operands) → l.map (fun p => (p.1, ev e p.2)) = l.map (fun p => (p.1, ev e' p.2)) := fun l hl => List.map_congr_left fun x hxl => by rw [hx x.2 (hl x hxl)]
  have ho : ∀ x : Option Operand, (∀ y, x = some y → y ∈ o.operands) → x.map (ev e) = x.map (ev e') := fun x hl => by
    cases x with
    | none => rfl
    | some y => simp [hx y (hl y rfl)]
  cases o with
  | build t parts =>
    simp only [hop]
    rw [hp parts.toList (fun x hx => by simp only [Op.operands]; exact List.mem_toArray.2 (List.mem_map.2 ⟨x, by simpa using hx, rfl⟩))]
  | buildSlice t n parts =>
    simp only [hop]
    rw [hp parts.toList (fun x hx => by simp only [Op.operands]; exact List.mem_toArray.2 (List.mem_map.2 ⟨x, by simpa using hx, rfl⟩))]
  | makeFunc fn a b =>
    simp only [hop]
    rw [hm a.toList (fun x hx => by simp only [Op.operands, Array.mem_append]; exact .inl (by simpa using hx)), hm b.toList (fun x hx => by simp only [Op.operands, Array.mem_append]; exact .inr (by simpa using hx))]
  | slice t x lo hi mx =>
    cases mx with
    | some mx =>
      cases hi with
      | none => rfl
      | some hi =>
        simp only [hop]
        rw [hx x (by simp [Op.operands]), ho lo (fun y hy => by subst hy; simp [Op.operands]), hx hi (by simp [Op.operands]), hx mx (by simp [Op.operands])]
    | none =>
      simp only [hop]
      rw [hx x (by simp [Op.operands]), ho lo (fun y hy => by subst hy; simp [Op.operands]), ho hi (fun y hy => by subst hy; simp [Op.operands])]
  | call c =>
    obtain ⟨callee, args, ts⟩ := c
    cases callee with
    | builtin b =>
      simp only [hop]
      rw [hm args.toList (fun x hx => by simp [Op.operands, Call.operands]; try simpa using hx)]
    | value f =>
      simp only [hop]
      rw [hx f (by simp [Op.operands, Call.operands]), hm args.toList (fun x hx => by simp [Op.operands, Call.operands]; try (right; simpa using hx))]
    | _ => rfl
  | makeMap t n => cases n <;> rfl
  | _ => first
    | rfl
    | (simp only [hop]; (try simp only [hx _ (show _ ∈ Op.operands _ by simp [Op.operands])]); done)
    | (simp [Op.operands] at hx; simp only [hop, hx]; done)
    | (simp [Op.operands] at hx; simp only [hop, hx.1, hx.2]; done)
    | (simp [Op.operands] at hx; simp only [hop, hx.1, hx.2.1, hx.2.2]; done)
end Go.HL
