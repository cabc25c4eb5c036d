/- Parts of the proofs, one behind the other: Gden Gratt Gdenr Gdenl Gdent. -/
import Derived.Test.YtdbbbhjajkobaabA9
import Derived.Test.YtdbbbhjajkobaabA8
import Derived.Test.YtdbbbhjajkobaabA3
import Derived.Test.YtdbbbhjajkobaabA5
import Derived.Test.YtdbbbhjajkobaabH3
/- What a program comes to, of trees: the program's layer 17. -/
set_option linter.unusedVariables false
set_option linter.unusedSimpArgs false
set_option maxRecDepth 100000
set_option maxHeartbeats 8000000
namespace Go.HL
open Go.RowKit Go.Proofs

def oldT (t : Tree) : Old := ⟨t.tag, t.key⟩
def tAt (l : List Tree) (i : Nat) : Tree := l.getD i (.mk ⟨#[]⟩ ⟨#[]⟩ ⟨#[]⟩ [] [])
/-- What is wanted of an element, of what it takes, or of none. -/
def elemT (tag key : ByteArray) (attrs : List Attr) (sub : List Tree → List Tree) (o : Option Tree) : Tree := match o with
  | none => .mk tag ⟨#[]⟩ key (newA attrs) (sub [])
  | some t => .mk tag ⟨#[]⟩ key (joinA t.attrs attrs) (sub t.kids)
def tkO (old : List Tree) (t : Int) : Option Tree := if 0 ≤ t then some (tAt old t.toNat) else none
mutual
def denW : Want → Int → List Nat → List Tree → List Tree
  | .mk k tag key text attrs kids, t, kept, old =>
    if k = 2 then [.mk ⟨#[]⟩ text ⟨#[]⟩ [] []]
    else if k = 1 then [elemT tag key attrs (fun o => denL kids (mof (o.map oldT) kids).take (mof (o.map oldT) kids).kept o) (tkO old t)]
    else if k = 3 then (tkO old t).toList
    else if k = 4 then kept.map (tAt old)
    else []
def denL : List Want → List Int → List Nat → List Tree → List Tree
  | [], _, _, _ => []
  | w :: r, ts, kept, old => denW w (ts.headD (-1)) kept old ++ denL r ts.tail kept old
end
def den (ws : List Want) (old : List Tree) : List Tree := denL ws (mof (old.map oldT) ws).take (mof (old.map oldT) ws).kept old
theorem denW_eq (w : Want) (t : Int) (kept : List Nat) (old : List Tree) : denW w t kept old =
    if w.kind = 2 then [.mk ⟨#[]⟩ w.text ⟨#[]⟩ [] []]
    else if w.kind = 1 then [elemT w.tag w.key w.attrs (den w.kids) (tkO old t)]
    else if w.kind = 3 then (tkO old t).toList
    else if w.kind = 4 then kept.map (tAt old)
    else [] := by cases w; rfl
theorem denL_take (ws : List Want) (ts : List Int) (kept : List Nat) (old : List Tree) : ∀ i, i ≤ ws.length → ws.length ≤ ts.length → ∀ w, ws[i]? = some w → denL (ws.take (i + 1)) ts kept old = denL (ws.take i) ts kept old ++ denW w (ts.getD i (-1)) kept old := by
  induction ws generalizing ts with
  | nil => intro i _ _ w h; simp at h
  | cons v r ih =>
    intro i hi hl w h
    cases ts with
    | nil => simp at hl
    | cons t ts =>
      cases i with
      | zero => simp at h; subst h; simp [denL]
      | succ i =>
        have := ih ts i (by simpa using hi) (by simpa using hl) w (by simpa using h)
        simp only [List.take_succ_cons, denL, List.tail_cons, List.headD_cons, this, List.append_assoc]
        simp
theorem denW_len (w : Want) (t : Int) (kept : List Nat) (old : List Tree) : (denW w t kept old).length ≤ 1 + kept.length := by
  rw [denW_eq]
  split
  · simp
  · split
    · simp
    · split
      · unfold tkO; split <;> simp
      · split <;> simp
theorem denL_len (ws : List Want) (ts : List Int) (kept : List Nat) (old : List Tree) : (denL ws ts kept old).length ≤ ws.length * (1 + kept.length) := by
  induction ws generalizing ts with
  | nil => simp [denL]
  | cons w r ih =>
    simp only [denL, List.length_append, List.length_cons, Nat.succ_mul]
    have := ih ts.tail
    have := denW_len w (ts.headD (-1)) kept old
    omega
theorem c_newR (l : List Attr) (tok : Tok) (hl : l.length ≤ 1048576) : Ret Try.prog 118 [.list (l.map attrD) tok] (.list ((newA l).map attrD) .ro) := Ret.weak fun σ => (c_new l tok σ hl).mono fun d s ⟨⟨t, _, h1⟩, h2⟩ => ⟨by rw [h1]; exact .list _ _, h2⟩
theorem c_joinR (l m : List Attr) (t1 t2 : Tok) (hl : l.length ≤ 1048576) (hm : m.length ≤ 1048576) : Ret Try.prog 119 [.list (l.map attrD) t1, .list (m.map attrD) t2] (.list ((joinA l m).map attrD) .ro) := Ret.weak fun σ => (c_join l m t1 t2 σ hl hm).mono fun d s ⟨⟨t, _, h1⟩, h2⟩ => ⟨by rw [h1]; exact .list _ _, h2⟩
theorem c_cloneR (l : List Attr) (tok : Tok) (hl : l.length ≤ 1048576) : Ret Try.prog 88 [.list (l.map attrD) tok] (.list (l.map attrD) .ro) := Ret.weak fun σ => (HCalls.frozen attrD_length (c_clone l tok σ hl)).mono fun d s ⟨⟨t, _, h1⟩, h2⟩ => ⟨by rw [h1]; exact .list _ _, h2⟩
theorem tree_eta (t : Tree) : Tree.mk t.tag t.text t.key t.attrs t.kids = t := by cases t; rfl
theorem c_copied_of (t : Tree) (h : FitT t) (sub : ∀ k ∈ t.kids, Ret Try.prog 69 [.agg (treeD k)] (.agg (treeD k))) : Ret Try.prog 69 [.agg (treeD t)] (.agg (treeD t)) := by
  refine Ret.weak fun σ => ?_
  obtain ⟨-, ⟨f4, -⟩, f5, -⟩ := h.inv
  rw [treeD_eq]
  refine HCalls.start mixed false _ _ (fn := Try.f69) (by kernel_rfl) rfl (by kernel_rfl) rfl (by kernel_rfl) (by kernel_rfl) ?_
  simp (maxSteps := 2000000) +contextual [-decide_eq_true_eq, -decide_eq_false_iff_not]
  intro b1 hb1 b2 n2 hb2
  have n2' : ¬ b1 = b2 := fun e => n2 e.symm
  refine c_cloneR _ _ f4 _ _ ?_
  simp (maxSteps := 2000000) +contextual [n2, n2', -decide_eq_true_eq, -decide_eq_false_iff_not]
  obtain ⟨S, hS⟩ : ∃ S, S = ((σ.set b1 (.cells (treeD t))).set b2 (.cells [.str ⟨#[]⟩, .str ⟨#[]⟩, .str ⟨#[]⟩, .list [] .nil, .list [] .nil])).set b1 (.cells (treeD t)) := ⟨_, rfl⟩
  have hSl : SLe σ S := by rw [hS]; exact (((SLe.refl σ).set hb1 _).set (by simp [n2, hb2]) _).put hb1 _
  have s1 : S b1 = some (.cells [.str t.tag, .str t.text, .str t.key, .list (t.attrs.map attrD) .ro, .list (t.kids.map treeD) .ro]) := by rw [hS, Store.set_same, treeD_eq]
  have s2 : S b2 = some (.cells [.str ⟨#[]⟩, .str ⟨#[]⟩, .str ⟨#[]⟩, .list [] .nil, .list [] .nil]) := by rw [hS, Store.set_ne _ _ _ _ n2, Store.set_same]
  rw [treeD_eq] at hS
  rw [← hS]
  clear hS
  refine hloop_intro (fun n e s => ∃ (i : Nat) (pre : List Tree) (tok : Tok), i + n = t.kids.length ∧ e 1 = .ptr b1 0 ∧ e 2 = .ptr b2 0 ∧ e 3 = .list (pre.map treeD) tok ∧ e 11 = .list (t.kids.map treeD) .ro ∧ e 12 = .int .i64 t.kids.length ∧ e 13 = .int .i64 i ∧
    s b1 = some (.cells [.str t.tag, .str t.text, .str t.key, .list (t.attrs.map attrD) .ro, .list (t.kids.map treeD) .ro]) ∧ s b2 = some (.cells [.str ⟨#[]⟩, .str ⟨#[]⟩, .str ⟨#[]⟩, .list [] .nil, .list [] .nil]) ∧
    GrV 5 σ (pre.map treeD) tok s ∧ tok.blk ≠ some b1 ∧ tok.blk ≠ some b2 ∧ SLe σ s ∧ Sm pre (t.kids.take i)) t.kids.length ?_ ?_
  · refine ⟨0, [], .nil, by simp, ?_⟩
    simp (maxSteps := 2000000) +contextual [-decide_eq_true_eq, -decide_eq_false_iff_not]
    exact ⟨s1, s2, .nil _, hSl, rfl⟩
  · rintro n e s ⟨i, pre, tok, hi, e1, e2, e3, e11, e12, e13, s1, s2, gG, g1, g2, hs, hpre⟩
    have hpre : pre = t.kids.take i := hpre
    by_cases h4 : i < t.kids.length
    · obtain ⟨x, hx, hx2⟩ : ∃ x, t.kids[i]? = some x ∧ t.kids[i] = x := ⟨_, List.getElem?_eq_getElem h4, rfl⟩
      have hpl : pre.length = i := by rw [hpre]; simp; omega
      simp (maxSteps := 2000000) +contextual [e1, e2, e3, e11, e12, e13, h4, hx, hx2, treeD_length, -decide_eq_true_eq, -decide_eq_false_iff_not]
      intro b5 hb5
      refine sub x (List.mem_of_getElem? hx) _ _ ?_
      simp (maxSteps := 2000000) +contextual [e1, e2, e3, e11, e12, e13, treeD_length, -decide_eq_true_eq, -decide_eq_false_iff_not]
      refine (gG.mono ((SLe.refl s).set hb5 _)).appendT (hs.set hb5 _) [x] rfl rfl (by simp; omega) (by simp only [List.length_singleton]; omega) ?_
      intro out tok' s' hout q1 q2 q3 q4
      simp (maxSteps := 2000000) +contextual [e1, e2, e3, e11, e12, e13, -decide_eq_true_eq, -decide_eq_false_iff_not]
      refine ⟨n - 1, by omega, s', SLe.refl _, i + 1, by omega, out, tok', ⟨rfl, rfl⟩, by rw [wrap_i64] <;> omega, ?_, ?_, q4, ?_, ?_, q1, ?_⟩
      · exact q2 _ _ g1 ((SLe.refl s).set hb5 _ _ _ s1)
      · exact q2 _ _ g2 ((SLe.refl s).set hb5 _ _ _ s2)
      · exact fun h => (q3 _ h).elim g1 fun h => by have := ((SLe.refl s).set hb5 (.cells (treeD x))) _ _ s1; rw [this] at h; cases h
      · exact fun h => (q3 _ h).elim g2 fun h => by have := ((SLe.refl s).set hb5 (.cells (treeD x))) _ _ s2; rw [this] at h; cases h
      · show out = _
        rw [hout, hpre, List.take_add_one, hx]; rfl
    · have hpk : pre = t.kids := by rw [hpre]; exact List.take_of_length_le (by omega)
      rw [hpk] at e3
      simp (maxSteps := 2000000) +contextual [e1, e2, e3, e11, e12, e13, h4, s1, s2, n2, n2', -decide_eq_true_eq, -decide_eq_false_iff_not]
      refine ⟨(hs.put hb1 _).put hb2 _, ?_⟩
      have := Wk.tree (a := t.tag) (b := t.text) (c := t.key) (attrs := t.attrs) (kids := t.kids) (.refl _) (.list _ tok)
      rwa [tree_eta, treeD_eq] at this
theorem c_copied : ∀ (n : Nat) (t : Tree), cntT t < n → FitT t → Ret Try.prog 69 [.agg (treeD t)] (.agg (treeD t)) := by
  intro n
  induction n with
  | zero => intro t h; omega
  | succ n ih =>
    intro t hn h
    refine c_copied_of t h fun k hk => ih k ?_ (h.inv.2.2.2 k hk)
    have := cntT_eq t; have := cntT_mem hk; omega
def ptrT : Option Tree → D
  | none => .lit (.pointer none)
  | some t => .iptr (treeD t)
def kidsO : Option Tree → List Tree
  | none => []
  | some t => t.kids
theorem elemT_eq (tag key : ByteArray) (attrs : List Attr) (sub : List Tree → List Tree) (o : Option Tree) : elemT tag key attrs sub o = .mk tag ⟨#[]⟩ key (match o with | none => newA attrs | some t => joinA t.attrs attrs) (sub (kidsO o)) := by cases o <;> rfl
theorem c_element17 (w : Want) (o : Option Tree) (hw : w.attrs.length ≤ 1048576) (ho : ∀ t, o = some t → FitT t) (sub : ∀ (tk : Tok), Ret Try.prog 14 [.list (w.kids.map wantD) .ro, .list ((kidsO o).map treeD) tk] (.list ((den w.kids (kidsO o)).map treeD) .ro)) :
    Ret Try.prog 68 [.agg (wantD w), ptrT o] (.agg (treeD (elemT w.tag w.key w.attrs (den w.kids) o))) := by
  refine Ret.weak fun σ => ?_
  have fin : ∀ (A : List Attr) (K : List Tree) (S : Store) (b1 b2 b3 : Nat), True := fun _ _ _ _ _ _ => trivial
  rw [wantD_eq, elemT_eq]
  cases o with
  | none =>
    have sub := sub .nil
    simp only [kidsO, List.map_nil] at sub
    refine HCalls.start mixed false _ _ (fn := Try.f68) (by kernel_rfl) rfl (by kernel_rfl) rfl (by kernel_rfl) (by kernel_rfl) ?_
    simp (maxSteps := 2000000) +contextual [ptrT, -decide_eq_true_eq, -decide_eq_false_iff_not]
    intro b1 hb1 b2 n2 hb2 b3 n3 n31 hb3
    refine c_newR _ _ hw _ _ ?_
    have n2' : ¬ b1 = b2 := fun e => n2 e.symm
    have n3' : ¬ b2 = b3 := fun e => n3 e.symm
    have n31' : ¬ b1 = b3 := fun e => n31 e.symm
    simp (maxSteps := 2000000) +contextual [n2, n3, n31, n2', n3', n31', -decide_eq_true_eq, -decide_eq_false_iff_not]
    refine sub _ _ ?_
    simp (maxSteps := 2000000) +contextual [n2, n3, n31, n2', n3', n31', -decide_eq_true_eq, -decide_eq_false_iff_not]
    refine ⟨(((SLe.refl σ).put hb1 _).put hb2 _ |>.put hb3 _).put hb2 _, ?_⟩
    exact Wk.tree (.refl _) (.refl _)
  | some t =>
    have sub := sub .ro
    simp only [kidsO] at sub
    obtain ⟨-, ⟨f4, -⟩, f5, -⟩ := (ho t rfl).inv
    refine HCalls.start mixed false _ _ (fn := Try.f68) (by kernel_rfl) rfl (by kernel_rfl) rfl (by kernel_rfl) (by kernel_rfl) ?_
    simp (maxSteps := 2000000) +contextual [ptrT, -decide_eq_true_eq, -decide_eq_false_iff_not]
    intro b1 hb1 b2 n2 hb2 b3 n3 n31 hb3
    have n2' : ¬ b1 = b2 := fun e => n2 e.symm
    have n3' : ¬ b2 = b3 := fun e => n3 e.symm
    have n31' : ¬ b1 = b3 := fun e => n31 e.symm
    have w1 : ∀ (X Y : HObj), SLe (Store.one b1 (.cells [D.int IntKind.i64 w.kind, D.str w.tag, D.str w.key, D.str w.text, D.list (List.map attrD w.attrs) Tok.ro, D.list (List.map wantD w.kids) Tok.ro])) ((((σ.set b1 (.cells [D.int IntKind.i64 w.kind, D.str w.tag, D.str w.key, D.str w.text, D.list (List.map attrD w.attrs) Tok.ro, D.list (List.map wantD w.kids) Tok.ro])).set b2 X).set b3 Y)) := fun X Y => Store.one_le (by rw [Store.set_ne _ _ _ _ n31', Store.set_ne _ _ _ _ n2', Store.set_same])
    refine hdraw_part _ (w1 _ _) (by kernel_rfl) ?_
    simp (maxSteps := 2000000) +contextual [n2, n3, n31, n2', n3', n31', treeD_eq t, -decide_eq_true_eq, -decide_eq_false_iff_not]
    refine c_joinR _ _ _ _ f4 hw _ _ ?_
    simp (maxSteps := 2000000) +contextual [n2, n3, n31, n2', n3', n31', -decide_eq_true_eq, -decide_eq_false_iff_not]
    refine ⟨w1 _ _, w1 _ _, ?_⟩
    refine hdraw_part _ (w1 _ _) (by kernel_rfl) ?_
    simp (maxSteps := 2000000) +contextual [n2, n3, n31, n2', n3', n31', -decide_eq_true_eq, -decide_eq_false_iff_not]
    refine sub _ _ ?_
    simp (maxSteps := 2000000) +contextual [n2, n3, n31, n2', n3', n31', -decide_eq_true_eq, -decide_eq_false_iff_not]
    refine ⟨w1 _ _, w1 _ _, (((SLe.refl σ).put hb1 _).put hb2 _ |>.put hb3 _).put hb2 _, ?_⟩
    exact Wk.tree (.refl _) (.refl _)
theorem mof_kept (os : List Old) (ws : List Want) : (mof os ws).kept.length ≤ os.length := by have := (mof_len os ws).2.1; omega
theorem mof_rng (os : List Old) {ws : List Want} {i : Nat} {w : Want} (h : ws[i]? = some w) : (mof os ws).take[i]? = some (gAt os w (st os ws i).left) ∧ gAt os w (st os ws i).left < os.length := by
  refine ⟨st_take os h, ?_⟩
  rcases gAt_mem os w (st os ws i).left with h | ⟨j, hj, h⟩
  · rw [h]; omega
  · rw [h]; have := (st_f os ws i).srt.lt j hj; omega
theorem mof_kept_lt (os : List Old) (ws : List Want) : ∀ k ∈ (mof os ws).kept, k < os.length := by have := (st_f os ws ws.length).lt; rwa [st_all] at this
theorem tkO_fit {old : List Tree} {t : Int} (ho : ∀ x ∈ old, FitT x) (ht : t < old.length) : ∀ x, tkO old t = some x → FitT x := by
  intro x hx
  unfold tkO at hx
  split at hx
  · injection hx with hx
    have hl : t.toNat < old.length := by omega
    rw [← hx]; unfold tAt
    rw [List.getD_eq_getElem?_getD, List.getElem?_eq_getElem hl]
    exact ho _ (List.getElem_mem hl)
  · cases hx
theorem tAt_get {old : List Tree} {i : Nat} (h : i < old.length) : old[i] = tAt old i := by unfold tAt; rw [List.getD_eq_getElem?_getD, List.getElem?_eq_getElem h]; rfl
theorem treeT_of (x : Tree) : [treeD x] = List.map treeT [⟨x, .ro, .ro⟩] := by rw [treeD_eq]; rfl
theorem c_den_of (ws : List Want) (old : List Tree) (t0 t1 : Tok) (hw : szL ws ≤ 1024) (hol : old.length ≤ 1048576) (ho : ∀ x ∈ old, FitT x)
    (elem : ∀ w ∈ ws, ∀ o, (∀ x, o = some x → FitT x) → Ret Try.prog 68 [.agg (wantD w), ptrT o] (.agg (treeD (elemT w.tag w.key w.attrs (den w.kids) o)))) :
    Ret Try.prog 14 [.list (ws.map wantD) t0, .list (old.map treeD) t1] (.list ((den ws old).map treeD) .ro) := by
  refine Ret.weak fun σ => ?_
  have hwl := sz_len ws
  refine HCalls.start mixed false _ _ (fn := Try.f14) (by kernel_rfl) rfl (by kernel_rfl) rfl (by kernel_rfl) (by kernel_rfl) ?_
  simp (maxSteps := 2000000) +contextual [-decide_eq_true_eq, -decide_eq_false_iff_not]
  obtain ⟨os, hos⟩ : ∃ os, os = old.map oldT := ⟨_, rfl⟩
  have hosl : os.length = old.length := by rw [hos]; simp
  refine hloop_cut 0 (fun e s => ∃ (tok : Tok), e 0 = .list (ws.map wantD) t0 ∧ e 1 = .list (old.map treeD) t1 ∧ e 5 = .list (os.map oldD) tok ∧ SLe σ s) ?_ ?_
  · refine hloop_intro (fun n e s => ∃ (i : Nat) (pre : List Old) (tok : Tok), i + n = old.length ∧ e 0 = .list (ws.map wantD) t0 ∧ e 1 = .list (old.map treeD) t1 ∧ e 15 = .list (old.map treeD) t1 ∧ e 16 = .int .i64 old.length ∧ e 17 = .int .i64 i ∧ e 5 = .list (pre.map oldD) tok ∧ GrV 2 σ (pre.map oldD) tok s ∧ SLe σ s ∧ Sm pre ((old.take i).map oldT)) old.length ?_ ?_
    · refine ⟨0, [], .nil, by simp, ?_⟩
      simp (maxSteps := 2000000) +contextual [-decide_eq_true_eq, -decide_eq_false_iff_not]
      exact ⟨.nil _, rfl⟩
    · rintro n e s ⟨i, pre, tok, hi, e0, e1, e15, e16, e17, e5, gG, hs, hpre⟩
      have hpre : pre = _ := hpre
      by_cases h4 : i < old.length
      · obtain ⟨x, hx, hx2⟩ : ∃ x, old[i]? = some x ∧ old[i] = x := ⟨_, List.getElem?_eq_getElem h4, rfl⟩
        have hpl : pre.length = i := by rw [hpre]; simp; omega
        simp (maxSteps := 2000000) +contextual [e0, e1, e15, e16, e17, e5, h4, hx, hx2, treeD_length, oldD_length, -decide_eq_true_eq, -decide_eq_false_iff_not]
        rw [treeD_eq x]
        simp (maxSteps := 2000000) +contextual [e0, e1, e15, e16, e17, e5, -decide_eq_true_eq, -decide_eq_false_iff_not]
        intro b hb
        refine ⟨fun a _ => rfl, ?_⟩
        refine (gG.mono ((SLe.refl s).set hb _)).appendT (hs.set hb _) [oldT x] rfl rfl (by simp; omega) (by simp only [List.length_singleton]; omega) ?_
        intro out tok' s' hout q1 q2 q3 q4
        simp (maxSteps := 2000000) +contextual [e0, e1, e15, e16, e17, -decide_eq_true_eq, -decide_eq_false_iff_not]
        refine ⟨n - 1, by omega, s', SLe.refl _, i + 1, by omega, by rw [wrap_i64] <;> omega, out, tok', ⟨rfl, rfl⟩, q4, q1, ?_⟩
        show out = _
        rw [hout, hpre, ← List.map_take, take_next hx, List.map_append]; rfl
      · have hpo : pre = os := by rw [hpre, List.take_of_length_le (by omega), hos]
        rw [hpo] at e5
        simp (maxSteps := 2000000) +contextual [e0, e1, e15, e16, e17, e5, h4, -decide_eq_true_eq, -decide_eq_false_iff_not]
        exact hs
  · rintro e s ⟨tok, e0, e1, e5, hs⟩
    simp (maxSteps := 2000000) +contextual [e0, e1, e5, -decide_eq_true_eq, -decide_eq_false_iff_not]
    refine c_mof os ws tok t0 (by omega) (by omega) _ _ ?_
    have hmD : mofD os ws = .agg (mofA (mof os ws)) := rfl
    rw [hmD]
    have hden : den ws old = denL ws (mof os ws).take (mof os ws).kept old := by unfold den; rw [← hos]
    have hrng := fun (i : Nat) (w : Want) h => mof_rng os (ws := ws) (i := i) (w := w) h
    have hklt := mof_kept_lt os ws
    obtain ⟨m1, m2, -⟩ := mof_len os ws
    rw [hden]
    generalize mof os ws = M at *
    simp (maxSteps := 2000000) +contextual [mofA, m1, e0, e1, -decide_eq_true_eq, -decide_eq_false_iff_not]
    intro b8 hb8
    refine hloop_intro (fun n e s => ∃ (i : Nat) (out : List TreeT) (tok : Tok), i + n = ws.length ∧ e 1 = .list (old.map treeD) t1 ∧ e 8 = .ptr b8 0 ∧ e 9 = .list (out.map treeT) tok ∧ e 33 = .list (ws.map wantD) t0 ∧ e 34 = .int .i64 ws.length ∧ e 35 = .int .i64 i ∧
      s b8 = some (.cells (mofA M)) ∧ GrV 5 σ (out.map treeT) tok s ∧ tok.blk ≠ some b8 ∧ SLe σ s ∧ Sm (out.map TreeT.t) (denL (ws.take i) M.take M.kept old)) ws.length ?_ ?_
    · refine ⟨0, [], .nil, by simp, ?_⟩
      simp (maxSteps := 2000000) +contextual [e0, e1, mofA, -decide_eq_true_eq, -decide_eq_false_iff_not]
      exact ⟨.nil _, hs.put (hs.none hb8) _, rfl⟩
    · rintro n e s ⟨i, out, tok, hi, e1, e8, e9, e33, e34, e35, p8, gG, n8, hs, hout⟩
      have hout : out.map TreeT.t = _ := hout
      simp only [mofA] at p8
      by_cases h4 : i < ws.length
      · obtain ⟨w, hw, hw2⟩ : ∃ w, ws[i]? = some w ∧ ws[i] = w := ⟨_, List.getElem?_eq_getElem h4, rfl⟩
        obtain ⟨g1, g2⟩ := hrng i w hw
        generalize gAt os w (st os ws i).left = g at *
        have hnext := denL_take ws M.take M.kept old i (by omega) (by omega) w hw
        have hgd : M.take.getD i (-1) = g := by rw [List.getD_eq_getElem?_getD, g1]; rfl
        rw [hgd] at hnext
        have hlen := denL_len (ws.take i) M.take M.kept old
        rw [← hout, List.length_map] at hlen
        have hi1 : i < M.take.length := by omega
        have htk2 : M.take[i] = g := by rw [List.getElem?_eq_getElem hi1] at g1; simpa using g1
        simp (maxSteps := 2000000) +contextual [e1, e8, e9, e33, e34, e35, h4, hw, hw2, wantD_length, -decide_eq_true_eq, -decide_eq_false_iff_not]
        intro b11 hb11
        obtain ⟨S, hS⟩ : ∃ S, S = s.set b11 (.cells (wantD w)) := ⟨_, rfl⟩
        have hsS : SLe s S := by rw [hS]; exact (SLe.refl s).set hb11 _
        have s8 := hsS _ _ p8
        have s11 : S b11 = some (.cells [.int .i64 w.kind, .str w.tag, .str w.key, .str w.text, .list (w.attrs.map attrD) .ro, .list (w.kids.map wantD) .ro]) := by rw [hS, Store.set_same, wantD_eq]
        have gS := gG.mono hsS
        have hss := hs.trans hsS
        have n11 : tok.blk ≠ some b11 := fun h => by obtain ⟨-, c, hc⟩ := gG.blk h; rw [hb11] at hc; cases hc
        rw [← hS]
        clear hS hsS
        have hkl : M.kept.length ≤ 1048576 := by omega
        have hil : (List.take i ws).length = i := by simp; omega
        rw [hil] at hlen
        have hmul : i * (1 + M.kept.length) ≤ 1024 * (1 + M.kept.length) := Nat.mul_le_mul_right _ (by omega)
        simp (maxSteps := 2000000) +contextual [s8, e1, e8, e9, e33, e34, e35, g1, htk2, intD_length, intD_def, -hcond_bool, -decide_eq_true_eq, -decide_eq_false_iff_not]
        refine ⟨by omega, ?_⟩
        refine hcond_cut (fun e s' => s' = S ∧ e 1 = .list (old.map treeD) t1 ∧ e 8 = .ptr b8 0 ∧ e 9 = .list (out.map treeT) tok ∧ e 11 = .ptr b11 0 ∧ e 12 = ptrT (tkO old g) ∧ e 33 = .list (ws.map wantD) t0 ∧ e 34 = .int .i64 ws.length ∧ e 35 = .int .i64 i) ?_ ?_
        · by_cases hg0 : 0 ≤ g
          · have hgo : g.toNat < old.length := by omega
            have hgl : g < old.length := by omega
            simp (maxSteps := 2000000) +contextual [s8, e1, e8, e9, e33, e34, e35, decide_eq_true hg0, g1, htk2, intD_length, intD_def, hi1, treeD_length, hg0, hgl, -decide_eq_true_eq, -decide_eq_false_iff_not]
            rw [tAt_get hgo]
            simp [tkO, hg0, ptrT]
          · simp (maxSteps := 2000000) +contextual [e1, e8, e9, e33, e34, e35, decide_eq_false hg0, -decide_eq_true_eq, -decide_eq_false_iff_not]
            simp [tkO, hg0, ptrT]
        · rintro e s' ⟨rfl, e1, e8, e9, e11, e12, e33, e34, e35⟩
          have fin : ∀ (out' : List TreeT) (tok' : Tok) (s2 : Store), out'.map TreeT.t = denL (ws.take (i + 1)) M.take M.kept old → s2 b8 = some (.cells (mofA M)) → GrV 5 σ (out'.map treeT) tok' s2 → tok'.blk ≠ some b8 → SLe σ s2 →
              ∃ m, m < n ∧ ∃ x, SLe x s2 ∧ ∃ i_1 : Nat, i_1 + m = ws.length ∧ ∃ (x_1 : List TreeT) (x_2 : Tok), (List.map treeT out' = List.map treeT x_1 ∧ tok' = x_2) ∧ IntKind.i64.wrap (↑i + 1) = ↑i_1 ∧ x b8 = some (HObj.cells (mofA M)) ∧ GrV 5 σ (List.map treeT x_1) x_2 x ∧ ¬x_2.blk = some b8 ∧ SLe σ x ∧ Sm (List.map TreeT.t x_1) (denL (List.take i_1 ws) M.take M.kept old) :=
            fun out' tok' s2 f1 f2 f3 f4 f5 => ⟨n - 1, by omega, s2, SLe.refl _, i + 1, by omega, out', tok', ⟨rfl, rfl⟩, by rw [wrap_i64] <;> omega, f2, f3, f4, f5, f1⟩
          have s8' : s' b8 = some (.cells (mofA M)) := by simp only [mofA]; exact s8
          have hgl : g < old.length := by omega
          have hfo := tkO_fit ho hgl
          by_cases k2 : w.kind = 2
          · have hdw : denW w g M.kept old = [.mk ⟨#[]⟩ w.text ⟨#[]⟩ [] []] := by rw [denW_eq, if_pos k2]
            simp (maxSteps := 2000000) +contextual [s11, e1, e8, e9, e11, e12, e33, e34, e35, decide_eq_true k2, -decide_eq_true_eq, -decide_eq_false_iff_not]
            refine ⟨fun a _ => rfl, ?_⟩
            refine gS.appendT hss [(TreeT.mk (.mk ⟨#[]⟩ w.text ⟨#[]⟩ [] []) .nil .nil)] rfl rfl (by simp; omega) (by simp only [List.length_singleton]; omega) ?_
            intro out' tok' s2 hout' q1 q2 q3 q4
            simp (maxSteps := 2000000) +contextual [e1, e8, e9, e33, e34, e35, -decide_eq_true_eq, -decide_eq_false_iff_not]
            exact fin out' tok' s2 (by rw [hout', List.map_append, hout, hnext, hdw]; rfl) (q2 _ _ n8 s8') q4 (fun h => (q3 _ h).elim n8 fun h => by rw [s8'] at h; cases h) q1
          · by_cases k1 : w.kind = 1
            · have hdw : denW w g M.kept old = [elemT w.tag w.key w.attrs (den w.kids) (tkO old g)] := by rw [denW_eq, if_neg k2, if_pos k1]
              simp (maxSteps := 2000000) +contextual [s11, e1, e8, e9, e11, e12, e33, e34, e35, decide_eq_true k1, decide_eq_false k2, -decide_eq_true_eq, -decide_eq_false_iff_not]
              rw [← wantD_eq]
              refine elem w (List.mem_of_getElem? hw) (tkO old g) hfo _ _ ?_
              simp (maxSteps := 2000000) +contextual [s11, e1, e8, e9, e11, e12, e33, e34, e35, treeD_length, -decide_eq_true_eq, -decide_eq_false_iff_not]
              refine ⟨fun a _ => rfl, ?_⟩
              refine gS.appendT hss [(TreeT.mk (elemT w.tag w.key w.attrs (den w.kids) (tkO old g)) .ro .ro)] (treeT_of _) rfl (by simp; omega) (by simp only [List.length_singleton]; omega) ?_
              intro out' tok' s2 hout' q1 q2 q3 q4
              simp (maxSteps := 2000000) +contextual [e1, e8, e9, e33, e34, e35, -decide_eq_true_eq, -decide_eq_false_iff_not]
              exact fin out' tok' s2 (by rw [hout', List.map_append, hout, hnext, hdw]; rfl) (q2 _ _ n8 s8') q4 (fun h => (q3 _ h).elim n8 fun h => by rw [s8'] at h; cases h) q1
            · by_cases k3 : w.kind = 3
              · have hdw : denW w g M.kept old = (tkO old g).toList := by rw [denW_eq, if_neg k2, if_neg k1, if_pos k3]
                cases ho3 : tkO old g with
                | none =>
                  rw [ho3] at hdw e12
                  have k4 : ¬ w.kind = 4 := by omega
                  simp (maxSteps := 2000000) +contextual [s11, e1, e8, e9, e11, e12, e33, e34, e35, decide_eq_false k1, decide_eq_false k2, decide_eq_true k3, decide_eq_false k4, ptrT, -decide_eq_true_eq, -decide_eq_false_iff_not]
                  exact fin out tok s' (by rw [hout, hnext, hdw]; simp) s8' gS n8 hss
                | some x =>
                  have hfx := hfo x ho3
                  rw [ho3] at hdw e12
                  simp (maxSteps := 2000000) +contextual [s11, e1, e8, e9, e11, e12, e33, e34, e35, decide_eq_false k1, decide_eq_false k2, decide_eq_true k3, ptrT, treeD_length, -decide_eq_true_eq, -decide_eq_false_iff_not]
                  refine c_copied _ x (Nat.lt_succ_self _) hfx _ _ ?_
                  simp (maxSteps := 2000000) +contextual [s11, e1, e8, e9, e11, e12, e33, e34, e35, treeD_length, -decide_eq_true_eq, -decide_eq_false_iff_not]
                  refine ⟨fun a _ => rfl, ?_⟩
                  refine gS.appendT hss [(TreeT.mk x .ro .ro)] (treeT_of _) rfl (by simp; omega) (by simp only [List.length_singleton]; omega) ?_
                  intro out' tok' s2 hout' q1 q2 q3 q4
                  simp (maxSteps := 2000000) +contextual [e1, e8, e9, e33, e34, e35, -decide_eq_true_eq, -decide_eq_false_iff_not]
                  exact fin out' tok' s2 (by rw [hout', List.map_append, hout, hnext, hdw]; rfl) (q2 _ _ n8 s8') q4 (fun h => (q3 _ h).elim n8 fun h => by rw [s8'] at h; cases h) q1
              · by_cases k4 : w.kind = 4
                · have hdw : denW w g M.kept old = M.kept.map (tAt old) := by rw [denW_eq, if_neg k2, if_neg k1, if_neg k3, if_pos k4]
                  simp (maxSteps := 2000000) +contextual [s8, s11, e1, e8, e9, e11, e12, e33, e34, e35, decide_eq_false k1, decide_eq_false k2, decide_eq_false k3, decide_eq_true k4, -decide_eq_true_eq, -decide_eq_false_iff_not]
                  refine hloop_intro (fun n1 e s => ∃ (k : Nat) (out : List TreeT) (tok : Tok), k + n1 = M.kept.length ∧ e 1 = .list (old.map treeD) t1 ∧ e 8 = .ptr b8 0 ∧ e 9 = .list (out.map treeT) tok ∧ e 33 = .list (ws.map wantD) t0 ∧ e 34 = .int .i64 ws.length ∧ e 35 = .int .i64 i ∧
                    e 93 = .list (M.kept.map natD) .ro ∧ e 94 = .int .i64 M.kept.length ∧ e 95 = .int .i64 k ∧ s b8 = some (.cells (mofA M)) ∧ GrV 5 σ (out.map treeT) tok s ∧ tok.blk ≠ some b8 ∧ SLe σ s ∧ Sm (out.map TreeT.t) (denL (ws.take i) M.take M.kept old ++ (M.kept.take k).map (tAt old))) M.kept.length ?_ ?_
                  · refine ⟨0, out, tok, by simp, ?_⟩
                    simp (maxSteps := 2000000) +contextual [e1, e8, e9, e33, e34, e35, -decide_eq_true_eq, -decide_eq_false_iff_not]
                    exact ⟨s8', gS, n8, hss, by show _ = _; simp [hout]⟩
                  · clear fin hlen hout gG gS n8 hss e1 e8 e9 e33 e34 e35 s8 s8' hs n11
                    rintro n1 e s ⟨k, out, tok, hk, e1, e8, e9, e33, e34, e35, e93, e94, e95, s8', gS, n8, hss, hout⟩
                    have hout : out.map TreeT.t = _ := hout
                    by_cases hk4 : k < M.kept.length
                    · obtain ⟨x, hx, hx2⟩ : ∃ x, M.kept[k]? = some x ∧ M.kept[k] = x := ⟨_, List.getElem?_eq_getElem hk4, rfl⟩
                      have hxl : x < old.length := by have := hklt x (List.mem_of_getElem? hx); omega
                      have hlen : out.length ≤ i * (1 + M.kept.length) + k := by
                        have h1 : (out.map TreeT.t).length = out.length := by simp
                        have h2 := denL_len (ws.take i) M.take M.kept old
                        rw [hil] at h2
                        rw [← h1, hout, List.length_append]
                        simp; omega
                      have hfx : FitT (tAt old x) := by rw [← tAt_get hxl]; exact ho _ (List.getElem_mem hxl)
                      simp (maxSteps := 2000000) +contextual [e1, e8, e9, e33, e34, e35, e93, e94, e95, hk4, hx, hx2, natD_length, natD_def, -decide_eq_true_eq, -decide_eq_false_iff_not]
                      have hxo : old[x]? = some (tAt old x) := by rw [List.getElem?_eq_getElem hxl, tAt_get hxl]
                      have hnk : M.kept.take (k + 1) = M.kept.take k ++ [x] := take_next hx
                      simp (maxSteps := 2000000) +contextual [e1, e8, e9, e33, e34, e35, e93, e94, e95, hxo, hxl, treeD_length, tAt_get hxl, -decide_eq_true_eq, -decide_eq_false_iff_not]
                      refine c_copied _ (tAt old x) (Nat.lt_succ_self _) hfx _ _ ?_
                      simp (maxSteps := 2000000) +contextual [e1, e8, e9, e33, e34, e35, e93, e94, e95, treeD_length, -decide_eq_true_eq, -decide_eq_false_iff_not]
                      refine ⟨fun a _ => rfl, ?_⟩
                      refine gS.appendT hss [TreeT.mk (tAt old x) .ro .ro] (treeT_of _) rfl (by simp; omega) (by simp only [List.length_singleton]; omega) ?_
                      intro out' tok' s2 hout' q1 q2 q3 q4
                      simp (maxSteps := 2000000) +contextual [e1, e8, e9, e33, e34, e35, e93, e94, e95, -decide_eq_true_eq, -decide_eq_false_iff_not]
                      refine ⟨n1 - 1, by omega, s2, SLe.refl _, k + 1, by omega, out', tok', ⟨rfl, rfl⟩, by rw [wrap_i64] <;> omega, q2 _ _ n8 s8', q4, (fun h => (q3 _ h).elim n8 fun h => by rw [s8'] at h; cases h), q1, ?_⟩
                      show _ = _
                      rw [hout', List.map_append, hout, ← List.map_take, hnk, List.map_append, List.append_assoc]; rfl
                    · have hkk : M.kept.take k = M.kept := List.take_of_length_le (by omega)
                      rw [hkk] at hout
                      simp (maxSteps := 2000000) +contextual [e1, e8, e9, e33, e34, e35, e93, e94, e95, hk4, -decide_eq_true_eq, -decide_eq_false_iff_not]
                      exact ⟨n - 1, by omega, s, SLe.refl _, i + 1, by omega, out, tok, ⟨rfl, rfl⟩, by rw [wrap_i64] <;> omega, s8', gS, n8, hss, by show _ = _; rw [hout, hnext, hdw]⟩
                · have hdw : denW w g M.kept old = [] := by rw [denW_eq, if_neg k2, if_neg k1, if_neg k3, if_neg k4]
                  simp (maxSteps := 2000000) +contextual [s11, e1, e8, e9, e11, e12, e33, e34, e35, decide_eq_false k1, decide_eq_false k2, decide_eq_false k3, decide_eq_false k4, -decide_eq_true_eq, -decide_eq_false_iff_not]
                  exact fin out tok s' (by rw [hout, hnext, hdw]; simp) s8' gS n8 hss
      · have hi2 : ws.take i = ws := List.take_of_length_le (by omega)
        rw [hi2] at hout
        simp (maxSteps := 2000000) +contextual [e1, e8, e9, e33, e34, e35, h4, -decide_eq_true_eq, -decide_eq_false_iff_not]
        refine ⟨hs, ?_⟩
        have := treeT_wk out tok
        rwa [hout] at this
theorem kids_fit {o : Option Tree} (h : ∀ x, o = some x → FitT x) : (kidsO o).length ≤ 1048576 ∧ ∀ x ∈ kidsO o, FitT x := by
  cases o with
  | none => exact ⟨by simp [kidsO], by simp [kidsO]⟩
  | some t => exact ⟨(h t rfl).inv.2.2.1, (h t rfl).inv.2.2.2⟩
theorem c_den : ∀ (n : Nat) (ws : List Want) (old : List Tree) (t0 t1 : Tok), szL ws < n → szL ws ≤ 1024 → old.length ≤ 1048576 → (∀ x ∈ old, FitT x) →
    Ret Try.prog 14 [.list (ws.map wantD) t0, .list (old.map treeD) t1] (.list ((den ws old).map treeD) .ro) := by
  intro n
  induction n with
  | zero => intro ws old t0 t1 h; omega
  | succ n ih =>
    intro ws old t0 t1 hn hw hol ho
    refine c_den_of ws old t0 t1 hw hol ho fun w hwm o hfo => ?_
    have h1 := sz_mem hwm
    have h2 := szW_eq w
    obtain ⟨k1, k2⟩ := kids_fit hfo
    exact c_element17 w o (by omega) hfo fun tk => ih w.kids (kidsO o) .ro tk (by omega) (by omega) k1 k2
end Go.HL
/- Attributes joined, and new ones: the document's answer. -/
set_option linter.unusedVariables false
set_option linter.unusedSimpArgs false
set_option maxRecDepth 100000
set_option maxHeartbeats 4000000
namespace Go.HL
open Go.RowKit Go.Proofs

theorem some_next {l : List Attr} {i : Nat} {x : Attr} (h : l[i]? = some x) (st : Bool) : someA (l.take (i + 1)) st = someA (l.take i) st ++ if x.static = st then [x] else [] := by
  unfold someA
  rw [take_next h, List.filter_append]
  by_cases hs : x.static = st <;> simp [hs]
theorem some_len (l : List Attr) (st : Bool) (i : Nat) : (someA (l.take i) st).length ≤ l.length := Nat.le_trans (someA_le _ _) (by simp; omega)
/-- Was it met? -/
def metA (out : List Attr) (a : Attr) (k : Nat) : Bool := a.static || (out.take k).any fun b => decide (b.name = a.name)
def raddA (out : List Attr) (a : Attr) : List Attr := if metA out a out.length then out else out ++ [a]
theorem metA_next {out : List Attr} {k : Nat} {b : Attr} (h : out[k]? = some b) (a : Attr) : metA out a (k + 1) = (metA out a k || decide (b.name = a.name)) := by
  unfold metA
  rw [take_next h, List.any_append]
  simp [Bool.or_assoc]
theorem raddA_le (out : List Attr) (a : Attr) : (raddA out a).length ≤ out.length + 1 := by unfold raddA; split <;> simp
theorem rfold_le (l : List Attr) (out : List Attr) : (l.foldl raddA out).length ≤ out.length + l.length := by
  induction l generalizing out with
  | nil => simp
  | cons a l ih =>
    have := ih (raddA out a)
    have := raddA_le out a
    simp only [List.foldl_cons, List.length_cons]; omega
theorem radd_eq (out : List Attr) (a : Attr) : raddA out a = if a.static then out else addA out a := by
  unfold raddA metA addA
  rw [List.take_length]
  cases hs : a.static with
  | true => simp
  | false =>
    simp only [Bool.false_or, Bool.false_eq_true, if_false]
    have h := idx_range (fun b : Attr => decide (b.name = a.name)) out
    rcases h with h | h
    · rw [h.2]
      have : atA out a.name < 0 := by unfold atA; rw [h.1]; decide
      simp [this]
    · rw [h.2.2]
      have : ¬ atA out a.name < 0 := by unfold atA; omega
      simp [this]
theorem rfold_eq (m : List Attr) (out : List Attr) : m.foldl raddA out = (someA m false).foldl addA out := by
  induction m generalizing out with
  | nil => rfl
  | cons a m ih =>
    rw [List.foldl_cons, ih, radd_eq]
    unfold someA
    cases hs : a.static <;> simp [hs]
theorem c_rnewA (l : List Attr) (tok : Tok) (hl : l.length ≤ 1048576) : Ret Try.prog 72 [.list (l.map attrD) tok] (.list ((newA l).map attrD) .ro) := by
  refine Ret.weak fun σ => ?_
  refine HCalls.start mixed false _ _ (fn := Try.f72) (by kernel_rfl) rfl (by kernel_rfl) rfl (by kernel_rfl) (by kernel_rfl) ?_
  simp (maxSteps := 2000000) +contextual [-decide_eq_true_eq, -decide_eq_false_iff_not]
  refine hloop_cut 0 (fun e s => ∃ tk, e 0 = .list (l.map attrD) tok ∧ e 3 = .list ((someA l true).map attrD) tk ∧ GrV 3 σ ((someA l true).map attrD) tk s ∧ SLe σ s) ?_ ?_
  · refine hloop_intro (fun n e s => ∃ (i : Nat) (out : List Attr) (tk : Tok), i + n = l.length ∧ e 0 = .list (l.map attrD) tok ∧ e 3 = .list (out.map attrD) tk ∧ e 4 = .int .i64 i ∧ GrV 3 σ (out.map attrD) tk s ∧ SLe σ s ∧ Sm out (someA (l.take i) true)) l.length ?_ ?_
    · refine ⟨0, [], .nil, by simp, ?_⟩
      simp (maxSteps := 2000000) +contextual [-decide_eq_true_eq, -decide_eq_false_iff_not]
      exact ⟨.nil _, rfl⟩
    · rintro n e s ⟨i, out, tk, hi, e0, e3, e4, gG, hs, hout⟩
      have hout : out = _ := hout
      by_cases h4 : i < l.length
      · obtain ⟨x, hx, hx2⟩ : ∃ x, l[i]? = some x ∧ l[i] = x := ⟨_, List.getElem?_eq_getElem h4, rfl⟩
        have hnx := some_next hx true
        have hln := some_len l true i
        rw [← hout] at hln
        cases hst : x.static with
        | true =>
          rw [if_pos hst] at hnx
          simp (maxSteps := 2000000) +contextual [e0, e3, e4, h4, hx, hx2, attrD_length, attrD_def, hst, -decide_eq_true_eq, -decide_eq_false_iff_not]
          rw [show [D.str x.name, D.str x.value, D.lit (Value.bool true)] = attrD x by rw [attrD_def, hst]]
          refine gG.appendT hs [x] rfl rfl (by simp; omega) (by simp only [List.length_singleton]; omega) ?_
          intro out' tk' s' hout' q1 q2 q3 q4
          simp (maxSteps := 2000000) +contextual [e0, e3, e4, -decide_eq_true_eq, -decide_eq_false_iff_not]
          exact ⟨n - 1, by omega, s', SLe.refl _, i + 1, by omega, out', tk', ⟨rfl, rfl⟩, by rw [wrap_i64] <;> omega, q4, q1, by show out' = _; rw [hout', hout, hnx]⟩
        | false =>
          rw [if_neg (by simp [hst])] at hnx
          simp (maxSteps := 2000000) +contextual [e0, e3, e4, h4, hx, hx2, attrD_length, attrD_def, hst, -decide_eq_true_eq, -decide_eq_false_iff_not]
          exact ⟨n - 1, by omega, s, SLe.refl _, i + 1, by omega, out, tk, ⟨rfl, rfl⟩, by rw [wrap_i64] <;> omega, gG, hs, by show out = _; rw [hout, hnx]; simp⟩
      · rw [List.take_of_length_le (by omega)] at hout
        simp (maxSteps := 2000000) +contextual [e0, e3, e4, h4, -decide_eq_true_eq, -decide_eq_false_iff_not]
        rw [hout] at gG ⊢
        exact ⟨tk, ⟨rfl, rfl⟩, gG, hs⟩
  · rintro e s ⟨tk, e0, e3, gG, hs⟩
    simp (maxSteps := 2000000) +contextual [e0, e3, -decide_eq_true_eq, -decide_eq_false_iff_not]
    refine hloop_intro (fun n e s => ∃ (i : Nat) (out : List Attr) (tk : Tok), i + n = l.length ∧ e 0 = .list (l.map attrD) tok ∧ e 3 = .list (out.map attrD) tk ∧ e 5 = .int .i64 i ∧ GrV 3 σ (out.map attrD) tk s ∧ SLe σ s ∧ Sm out (someA l true ++ someA (l.take i) false)) l.length ?_ ?_
    · refine ⟨0, someA l true, tk, by simp, ?_⟩
      simp (maxSteps := 2000000) +contextual [e0, e3, -decide_eq_true_eq, -decide_eq_false_iff_not]
      exact ⟨gG, hs, by show _ = _; simp [someA]⟩
    · rintro n e s ⟨i, out, tk, hi, e0, e3, e4, gG, hs, hout⟩
      have hout : out = _ := hout
      by_cases h4 : i < l.length
      · obtain ⟨x, hx, hx2⟩ : ∃ x, l[i]? = some x ∧ l[i] = x := ⟨_, List.getElem?_eq_getElem h4, rfl⟩
        have hnx := some_next hx false
        have hln : out.length ≤ l.length + l.length := by
          have h1 := some_len l false i
          have h2 := someA_le l true
          rw [hout, List.length_append]; omega
        cases hst : x.static with
        | false =>
          rw [if_pos hst] at hnx
          simp (maxSteps := 2000000) +contextual [e0, e3, e4, h4, hx, hx2, attrD_length, attrD_def, hst, -decide_eq_true_eq, -decide_eq_false_iff_not]
          rw [show [D.str x.name, D.str x.value, D.lit (Value.bool false)] = attrD x by rw [attrD_def, hst]]
          refine gG.appendT hs [x] rfl rfl (by simp; omega) (by simp only [List.length_singleton]; omega) ?_
          intro out' tk' s' hout' q1 q2 q3 q4
          simp (maxSteps := 2000000) +contextual [e0, e3, e4, -decide_eq_true_eq, -decide_eq_false_iff_not]
          exact ⟨n - 1, by omega, s', SLe.refl _, i + 1, by omega, out', tk', ⟨rfl, rfl⟩, by rw [wrap_i64] <;> omega, q4, q1, by show out' = _; rw [hout', hout, hnx]; simp⟩
        | true =>
          rw [if_neg (by simp [hst])] at hnx
          simp (maxSteps := 2000000) +contextual [e0, e3, e4, h4, hx, hx2, attrD_length, attrD_def, hst, -decide_eq_true_eq, -decide_eq_false_iff_not]
          exact ⟨n - 1, by omega, s, SLe.refl _, i + 1, by omega, out, tk, ⟨rfl, rfl⟩, by rw [wrap_i64] <;> omega, gG, hs, by show out = _; rw [hout, hnx]; simp⟩
      · rw [List.take_of_length_le (by omega)] at hout
        simp (maxSteps := 2000000) +contextual [e0, e3, e4, h4, -decide_eq_true_eq, -decide_eq_false_iff_not]
        rw [hout]
        exact ⟨hs, .list _ _⟩
theorem c_rjoinA (l m : List Attr) (t0 t1 : Tok) (hl : l.length ≤ 1048576) (hm : m.length ≤ 1048576) : Ret Try.prog 71 [.list (l.map attrD) t0, .list (m.map attrD) t1] (.list ((joinA l m).map attrD) .ro) := by
  refine Ret.weak fun σ => ?_
  refine HCalls.start mixed false _ _ (fn := Try.f71) (by kernel_rfl) rfl (by kernel_rfl) rfl (by kernel_rfl) (by kernel_rfl) ?_
  simp (maxSteps := 2000000) +contextual [-decide_eq_true_eq, -decide_eq_false_iff_not]
  refine hloop_cut 0 (fun e s => ∃ (out : List Attr) (tk : Tok), e 1 = .list (m.map attrD) t1 ∧ e 5 = .list (out.map attrD) tk ∧ GrV 3 σ (out.map attrD) tk s ∧ SLe σ s ∧ Sm out (someA l true)) ?_ ?_
  · refine hloop_intro (fun n e s => ∃ (i : Nat) (out : List Attr) (tk : Tok), i + n = l.length ∧ e 0 = .list (l.map attrD) t0 ∧ e 1 = .list (m.map attrD) t1 ∧ e 5 = .list (out.map attrD) tk ∧ e 6 = .int .i64 i ∧ GrV 3 σ (out.map attrD) tk s ∧ SLe σ s ∧ Sm out (someA (l.take i) true)) l.length ?_ ?_
    · refine ⟨0, [], .nil, by simp, ?_⟩
      simp (maxSteps := 2000000) +contextual [-decide_eq_true_eq, -decide_eq_false_iff_not]
      exact ⟨.nil _, rfl⟩
    · rintro n e s ⟨i, out, tk, hi, e0, e1, e3, e4, gG, hs, hout⟩
      have hout : out = _ := hout
      by_cases h4 : i < l.length
      · obtain ⟨x, hx, hx2⟩ : ∃ x, l[i]? = some x ∧ l[i] = x := ⟨_, List.getElem?_eq_getElem h4, rfl⟩
        have hnx := some_next hx true
        have hln := some_len l true i
        rw [← hout] at hln
        cases hst : x.static with
        | true =>
          rw [if_pos hst] at hnx
          simp (maxSteps := 2000000) +contextual [e0, e1, e3, e4, h4, hx, hx2, attrD_length, attrD_def, hst, -decide_eq_true_eq, -decide_eq_false_iff_not]
          rw [show [D.str x.name, D.str x.value, D.lit (Value.bool true)] = attrD x by rw [attrD_def, hst]]
          refine gG.appendT hs [x] rfl rfl (by simp; omega) (by simp only [List.length_singleton]; omega) ?_
          intro out' tk' s' hout' q1 q2 q3 q4
          simp (maxSteps := 2000000) +contextual [e0, e1, e3, e4, -decide_eq_true_eq, -decide_eq_false_iff_not]
          exact ⟨n - 1, by omega, s', SLe.refl _, i + 1, by omega, out', tk', ⟨rfl, rfl⟩, by rw [wrap_i64] <;> omega, q4, q1, by show out' = _; rw [hout', hout, hnx]⟩
        | false =>
          rw [if_neg (by simp [hst])] at hnx
          simp (maxSteps := 2000000) +contextual [e0, e1, e3, e4, h4, hx, hx2, attrD_length, attrD_def, hst, -decide_eq_true_eq, -decide_eq_false_iff_not]
          exact ⟨n - 1, by omega, s, SLe.refl _, i + 1, by omega, out, tk, ⟨rfl, rfl⟩, by rw [wrap_i64] <;> omega, gG, hs, by show out = _; rw [hout, hnx]; simp⟩
      · rw [List.take_of_length_le (by omega)] at hout
        simp (maxSteps := 2000000) +contextual [e0, e1, e3, e4, h4, -decide_eq_true_eq, -decide_eq_false_iff_not]
        exact ⟨out, tk, ⟨rfl, rfl⟩, gG, hs, hout⟩
  · rintro e s ⟨out, tk, e1, e5, gG, hs, hout⟩
    have hout : out = _ := hout
    simp (maxSteps := 2000000) +contextual [e1, e5, -decide_eq_true_eq, -decide_eq_false_iff_not]
    refine hloop_cut 2 (fun e s => ∃ (out : List Attr) (tk : Tok), e 5 = .list (out.map attrD) tk ∧ SLe σ s ∧ Sm out (m.foldl raddA (someA l true))) ?_ ?_
    · refine hloop_intro (fun n e s => ∃ (i : Nat) (out : List Attr) (tk : Tok), i + n = m.length ∧ e 1 = .list (m.map attrD) t1 ∧ e 5 = .list (out.map attrD) tk ∧ e 7 = .int .i64 i ∧ GrV 3 σ (out.map attrD) tk s ∧ SLe σ s ∧ Sm out ((m.take i).foldl raddA (someA l true))) m.length ?_ ?_
      · refine ⟨0, out, tk, by simp, ?_⟩
        simp (maxSteps := 2000000) +contextual [e1, e5, -decide_eq_true_eq, -decide_eq_false_iff_not]
        exact ⟨gG, hs, hout⟩
      · rintro n e s ⟨i, out, tk, hi, e1, e5, e7, gG, hs, hout⟩
        have hout : out = _ := hout
        by_cases h4 : i < m.length
        · obtain ⟨x, hx, hx2⟩ : ∃ x, m[i]? = some x ∧ m[i] = x := ⟨_, List.getElem?_eq_getElem h4, rfl⟩
          have hnx : (m.take (i + 1)).foldl raddA (someA l true) = raddA ((m.take i).foldl raddA (someA l true)) x := by rw [take_next hx, List.foldl_append]; rfl
          have hln : out.length ≤ l.length + m.length := by
            have h1 := rfold_le (m.take i) (someA l true)
            have h2 := someA_le l true
            have h3 : (m.take i).length ≤ m.length := by simp; omega
            rw [hout]; omega
          simp (maxSteps := 2000000) +contextual [e1, e5, e7, h4, hx, hx2, attrD_length, attrD_def, -decide_eq_true_eq, -decide_eq_false_iff_not]
          refine hloop_cut 4 (fun e s' => s' = s ∧ e 1 = .list (m.map attrD) t1 ∧ e 5 = .list (out.map attrD) tk ∧ e 7 = .int .i64 i ∧ e 8 = .bool (metA out x out.length)) ?_ ?_
          · refine hloop_fix (fun n e => ∃ (k : Nat), k + n = out.length ∧ e 1 = .list (m.map attrD) t1 ∧ e 5 = .list (out.map attrD) tk ∧ e 7 = .int .i64 i ∧ e 8 = .bool (metA out x k) ∧ e 9 = .int .i64 k) out.length ?_ ?_
            · refine ⟨0, by simp, ?_⟩
              simp (maxSteps := 2000000) +contextual [e1, e5, e7, -decide_eq_true_eq, -decide_eq_false_iff_not]
              simp [metA]
            · rintro n1 e ⟨k, hk, e1, e5, e7, e8, e9⟩
              by_cases hk4 : k < out.length
              · obtain ⟨y, hy, hy2⟩ : ∃ y, out[k]? = some y ∧ out[k] = y := ⟨_, List.getElem?_eq_getElem hk4, rfl⟩
                have hmn := metA_next hy x
                simp (maxSteps := 2000000) +contextual [e1, e5, e7, e8, e9, hk4, -decide_eq_true_eq, -decide_eq_false_iff_not]
                refine hdraw_intro (by kernel_rfl) ?_
                cases hmm : metA out x k with
                | true =>
                  rw [hmm, Bool.true_or] at hmn
                  rw [hmm] at e8
                  simp (maxSteps := 2000000) +contextual [e1, e5, e7, e8, e9, -decide_eq_true_eq, -decide_eq_false_iff_not]
                  exact ⟨n1 - 1, by omega, k + 1, by omega, hmn, by rw [wrap_i64] <;> omega⟩
                | false =>
                  rw [hmm, Bool.false_or] at hmn
                  rw [hmm] at e8
                  simp (maxSteps := 2000000) +contextual [e1, e5, e7, e8, e9, hk4, hy, hy2, hx, hx2, h4, attrD_length, attrD_def, -decide_eq_true_eq, -decide_eq_false_iff_not]
                  exact ⟨n1 - 1, by omega, k + 1, by omega, hmn.symm, by rw [wrap_i64] <;> omega⟩
              · have hkk : k = out.length := by omega
                subst hkk
                simp (maxSteps := 2000000) +contextual [e1, e5, e7, e8, e9, hk4, -decide_eq_true_eq, -decide_eq_false_iff_not]
          · rintro e s' ⟨rfl, e1, e5, e7, e8⟩
            cases hmm : metA out x out.length with
            | true =>
              rw [hmm] at e8
              have hra : raddA out x = out := by unfold raddA; rw [hmm]; rfl
              simp (maxSteps := 2000000) +contextual [e1, e5, e7, e8, -decide_eq_true_eq, -decide_eq_false_iff_not]
              exact ⟨n - 1, by omega, s', SLe.refl _, i + 1, by omega, out, tk, ⟨rfl, rfl⟩, by rw [wrap_i64] <;> omega, gG, hs, by show out = _; rw [hnx, ← hout, hra]⟩
            | false =>
              rw [hmm] at e8
              have hra : raddA out x = out ++ [x] := by unfold raddA; rw [hmm]; rfl
              simp (maxSteps := 2000000) +contextual [e1, e5, e7, e8, h4, hx, hx2, attrD_length, attrD_def, -decide_eq_true_eq, -decide_eq_false_iff_not]
              rw [← attrD_def]
              refine gG.appendT hs [x] rfl rfl (by simp; omega) (by simp only [List.length_singleton]; omega) ?_
              intro out' tk' s2 hout' q1 q2 q3 q4
              simp (maxSteps := 2000000) +contextual [e1, e5, e7, -decide_eq_true_eq, -decide_eq_false_iff_not]
              exact ⟨n - 1, by omega, s2, SLe.refl _, i + 1, by omega, out', tk', ⟨rfl, rfl⟩, by rw [wrap_i64] <;> omega, q4, q1, by show out' = _; rw [hnx, ← hout, hra, hout']⟩
        · rw [List.take_of_length_le (by omega)] at hout
          simp (maxSteps := 2000000) +contextual [e1, e5, e7, h4, -decide_eq_true_eq, -decide_eq_false_iff_not]
          exact ⟨out, rfl, hs, hout⟩
    · rintro e s ⟨out, tk, e5, hs, hout⟩
      have hout : out = _ := hout
      rw [rfold_eq] at hout
      have hj : joinA l m = out.take 8 := by rw [hout]; rfl
      by_cases h8 : 8 < (out.length : Int)
      · simp (maxSteps := 2000000) +contextual [e5, decide_eq_true h8, attrD_length, -decide_eq_true_eq, -decide_eq_false_iff_not]
        rw [hj, ← List.map_take]
        exact ⟨by omega, hs, .refl _⟩
      · simp (maxSteps := 2000000) +contextual [e5, decide_eq_false h8, -decide_eq_true_eq, -decide_eq_false_iff_not]
        have : out.take 8 = out := List.take_of_length_le (by omega)
        rw [hj, this]
        exact ⟨hs, .list _ _⟩
end Go.HL
/- What a program comes to, of trees: the document's answer. -/
set_option linter.unusedVariables false
set_option linter.unusedSimpArgs false
set_option maxRecDepth 100000
set_option maxHeartbeats 8000000
namespace Go.HL
open Go.RowKit Go.Proofs

theorem c_rtrees_of (ws : List Want) (old : List Tree) (t0 t1 : Tok) (hw : szL ws ≤ 1024) (hol : old.length ≤ 1048576) (ho : ∀ x ∈ old, FitT x)
    (sub : ∀ w ∈ ws, ∀ o, (∀ x, o = some x → FitT x) → ∀ tk, Ret Try.prog 15 [.list (w.kids.map wantD) .ro, .list ((kidsO o).map treeD) tk] (.list ((den w.kids (kidsO o)).map treeD) .ro)) :
    Ret Try.prog 15 [.list (ws.map wantD) t0, .list (old.map treeD) t1] (.list ((den ws old).map treeD) .ro) := by
  refine Ret.weak fun σ => ?_
  have hwl := sz_len ws
  refine HCalls.start mixed false _ _ (fn := Try.f15) (by kernel_rfl) rfl (by kernel_rfl) rfl (by kernel_rfl) (by kernel_rfl) ?_
  simp (maxSteps := 2000000) +contextual [-decide_eq_true_eq, -decide_eq_false_iff_not]
  obtain ⟨os, hos⟩ : ∃ os, os = old.map oldT := ⟨_, rfl⟩
  have hosl : os.length = old.length := by rw [hos]; simp
  refine hloop_cut 0 (fun e s => ∃ (tok : Tok), e 0 = .list (ws.map wantD) t0 ∧ e 1 = .list (old.map treeD) t1 ∧ e 5 = .list (os.map oldD) tok ∧ SLe σ s) ?_ ?_
  · refine hloop_intro (fun n e s => ∃ (i : Nat) (pre : List Old) (tok : Tok), i + n = old.length ∧ e 0 = .list (ws.map wantD) t0 ∧ e 1 = .list (old.map treeD) t1 ∧ e 6 = .int .i64 i ∧ e 5 = .list (pre.map oldD) tok ∧ GrV 2 σ (pre.map oldD) tok s ∧ SLe σ s ∧ Sm pre ((old.take i).map oldT)) old.length ?_ ?_
    · refine ⟨0, [], .nil, by simp, ?_⟩
      simp (maxSteps := 2000000) +contextual [-decide_eq_true_eq, -decide_eq_false_iff_not]
      exact ⟨.nil _, rfl⟩
    · rintro n e s ⟨i, pre, tok, hi, e0, e1, e6, e5, gG, hs, hpre⟩
      have hpre : pre = _ := hpre
      by_cases h4 : i < old.length
      · obtain ⟨x, hx, hx2⟩ : ∃ x, old[i]? = some x ∧ old[i] = x := ⟨_, List.getElem?_eq_getElem h4, rfl⟩
        have hpl : pre.length = i := by rw [hpre]; simp; omega
        simp (maxSteps := 2000000) +contextual [e0, e1, e6, e5, h4, -decide_eq_true_eq, -decide_eq_false_iff_not]
        refine hdraw_part σ hs (by kernel_rfl) ?_
        simp (maxSteps := 2000000) +contextual [e0, e1, e6, e5, h4, hx, hx2, treeD_length, treeD_eq x, oldD_length, -decide_eq_true_eq, -decide_eq_false_iff_not]
        refine gG.appendT hs [oldT x] rfl rfl (by simp; omega) (by simp only [List.length_singleton]; omega) ?_
        intro out tok' s' hout q1 q2 q3 q4
        simp (maxSteps := 2000000) +contextual [e0, e1, e6, -decide_eq_true_eq, -decide_eq_false_iff_not]
        refine ⟨q1, n - 1, by omega, s', SLe.refl _, i + 1, by omega, by rw [wrap_i64] <;> omega, out, tok', ⟨rfl, rfl⟩, q4, q1, ?_⟩
        show out = _
        rw [hout, hpre, ← List.map_take, take_next hx, List.map_append]; rfl
      · have hpo : pre = os := by rw [hpre, List.take_of_length_le (by omega), hos]
        rw [hpo] at e5
        simp (maxSteps := 2000000) +contextual [e0, e1, e6, e5, h4, -decide_eq_true_eq, -decide_eq_false_iff_not]
        exact hs
  · rintro e s ⟨tok, e0, e1, e5, hs⟩
    simp (maxSteps := 2000000) +contextual [e0, e1, e5, -decide_eq_true_eq, -decide_eq_false_iff_not]
    refine c_rof16 os ws tok t0 (by omega) (by omega) _ _ ?_
    have hden : den ws old = denL ws (mof os ws).take (mof os ws).kept old := by unfold den; rw [← hos]
    have hrng := fun (i : Nat) (w : Want) h => mof_rng os (ws := ws) (i := i) (w := w) h
    have hklt := mof_kept_lt os ws
    obtain ⟨m1, m2, -⟩ := mof_len os ws
    have hrD : refD os ws = .tup (mofA (mof os ws)) := rfl
    rw [hden, hrD]
    generalize mof os ws = M at *
    simp (maxSteps := 2000000) +contextual [mofA, m1, e0, e1, -decide_eq_true_eq, -decide_eq_false_iff_not]
    refine hloop_intro (fun n e s => ∃ (i : Nat) (out : List TreeT) (tok : Tok), i + n = ws.length ∧ e 0 = .list (ws.map wantD) t0 ∧ e 1 = .list (old.map treeD) t1 ∧ e 7 = .list (M.take.map intD) .ro ∧ e 8 = .list (M.kept.map natD) .ro ∧ e 10 = .list (out.map treeT) tok ∧ e 11 = .int .i64 i ∧
      GrV 5 σ (out.map treeT) tok s ∧ SLe σ s ∧ Sm (out.map TreeT.t) (denL (ws.take i) M.take M.kept old)) ws.length ?_ ?_
    · refine ⟨0, [], .nil, by simp, ?_⟩
      simp (maxSteps := 2000000) +contextual [e0, e1, -decide_eq_true_eq, -decide_eq_false_iff_not]
      exact ⟨.nil _, hs, rfl⟩
    · rintro n e s ⟨i, out, tok, hi, e0, e1, e7, e8, e10, e11, gG, hs, hout⟩
      have hout : out.map TreeT.t = _ := hout
      by_cases h4 : i < ws.length
      · obtain ⟨w, hw, hw2⟩ : ∃ w, ws[i]? = some w ∧ ws[i] = w := ⟨_, List.getElem?_eq_getElem h4, rfl⟩
        obtain ⟨g1, g2⟩ := hrng i w hw
        generalize gAt os w (st os ws i).left = g at *
        have hnext := denL_take ws M.take M.kept old i (by omega) (by omega) w hw
        have hgd : M.take.getD i (-1) = g := by rw [List.getD_eq_getElem?_getD, g1]; rfl
        rw [hgd] at hnext
        have hlen := denL_len (ws.take i) M.take M.kept old
        rw [← hout, List.length_map] at hlen
        have hi1 : i < M.take.length := by omega
        have htk2 : M.take[i] = g := by rw [List.getElem?_eq_getElem hi1] at g1; simpa using g1
        have hszw := sz_mem (List.mem_of_getElem? hw)
        have hszw2 := szW_eq w
        simp (maxSteps := 2000000) +contextual [e0, e1, e7, e8, e10, e11, h4, hw, hw2, wantD_length, -decide_eq_true_eq, -decide_eq_false_iff_not]
        intro b12 hb12
        obtain ⟨S, hS⟩ : ∃ S, S = s.set b12 (.cells (wantD w)) := ⟨_, rfl⟩
        have hsS : SLe s S := by rw [hS]; exact (SLe.refl s).set hb12 _
        have s12 : S b12 = some (.cells [.int .i64 w.kind, .str w.tag, .str w.key, .str w.text, .list (w.attrs.map attrD) .ro, .list (w.kids.map wantD) .ro]) := by rw [hS, Store.set_same, wantD_eq]
        have gS := gG.mono hsS
        have hss := hs.trans hsS
        rw [← hS]
        clear hS hsS
        have hkl : M.kept.length ≤ 1048576 := by omega
        have hil : (List.take i ws).length = i := by simp; omega
        rw [hil] at hlen
        have hmul : i * (1 + M.kept.length) ≤ 1024 * (1 + M.kept.length) := Nat.mul_le_mul_right _ (by omega)
        have fin : ∀ (out' : List TreeT) (tok' : Tok) (s2 : Store), out'.map TreeT.t = denL (ws.take (i + 1)) M.take M.kept old → GrV 5 σ (out'.map treeT) tok' s2 → SLe σ s2 →
            ∃ m, m < n ∧ ∃ x, SLe x s2 ∧ ∃ i_1 : Nat, i_1 + m = ws.length ∧ ∃ (x_1 : List TreeT) (x_2 : Tok), (List.map treeT out' = List.map treeT x_1 ∧ tok' = x_2) ∧ IntKind.i64.wrap (↑i + 1) = ↑i_1 ∧ GrV 5 σ (List.map treeT x_1) x_2 x ∧ SLe σ x ∧ Sm (List.map TreeT.t x_1) (denL (List.take i_1 ws) M.take M.kept old) :=
          fun out' tok' s2 f1 f3 f5 => ⟨n - 1, by omega, s2, SLe.refl _, i + 1, by omega, out', tok', ⟨rfl, rfl⟩, by rw [wrap_i64] <;> omega, f3, f5, f1⟩
        have hgl : g < old.length := by omega
        have hfo := tkO_fit ho hgl
        have hsub := sub w (List.mem_of_getElem? hw)
        have hgo : 0 ≤ g → g.toNat < old.length := fun _ => by omega
        rw [show valD false (List.take 1 (wantD w)) = D.int .i64 w.kind by rw [wantD_eq]; rfl]
        by_cases k1 : w.kind = 1
        · have k2 : ¬ w.kind = 2 := by omega
          have hdw : denW w g M.kept old = [elemT w.tag w.key w.attrs (den w.kids) (tkO old g)] := by rw [denW_eq, if_neg k2, if_pos k1]
          rw [elemT_eq] at hdw
          simp (maxSteps := 2000000) +contextual [s12, e0, e1, e7, e8, e10, e11, decide_eq_true k1, -decide_eq_true_eq, -decide_eq_false_iff_not]
          intro b13 hb13
          have n13 : ¬ b12 = b13 := fun h => by subst h; rw [s12] at hb13; cases hb13
          have n13' : ¬ b13 = b12 := fun h => n13 h.symm
          by_cases hg0 : 0 ≤ g
          · have hto : tkO old g = some (tAt old g.toNat) := by simp [tkO, hg0]
            have hfx := (hfo _ hto).inv
            have hsub := hsub _ hfo .ro
            rw [hto] at hdw hsub
            simp only [kidsO] at hdw hsub
            have hxo : old[g.toNat]? = some (tAt old g.toNat) := by rw [List.getElem?_eq_getElem (hgo hg0), tAt_get (hgo hg0)]
            simp (maxSteps := 2000000) +contextual [e0, e1, e7, e8, e10, e11, g1, htk2, intD_length, intD_def, hi1, decide_eq_true hg0, -decide_eq_true_eq, -decide_eq_false_iff_not]
            have o1 : ∀ X, SLe (Store.one b12 (.cells [.int .i64 w.kind, .str w.tag, .str w.key, .str w.text, .list (w.attrs.map attrD) .ro, .list (w.kids.map wantD) .ro])) (S.set b13 X) := fun X => Store.one_put s12 n13
            refine hdraw_part _ (o1 _) (by kernel_rfl) ?_
            simp (maxSteps := 2000000) +contextual [e0, e1, e7, e8, e10, e11, g1, htk2, intD_length, intD_def, hi1, hxo, treeD_length, treeD_eq (tAt old g.toNat), hgl, hg0, tAt_get (hgo hg0), -decide_eq_true_eq, -decide_eq_false_iff_not]
            refine c_rjoinA _ _ _ _ hfx.2.1.1 (by omega) _ _ ?_
            simp (maxSteps := 2000000) +contextual [e0, e1, e7, e8, e10, e11, -decide_eq_true_eq, -decide_eq_false_iff_not]
            refine ⟨o1 _, o1 _, ?_⟩
            refine hdraw_part _ (o1 _) (by kernel_rfl) ?_
            simp (maxSteps := 2000000) +contextual [e0, e1, e7, e8, e10, e11, g1, htk2, intD_length, intD_def, hi1, hxo, treeD_length, treeD_eq (tAt old g.toNat), hgl, hg0, tAt_get (hgo hg0), -decide_eq_true_eq, -decide_eq_false_iff_not]
            refine hsub _ _ ?_
            simp (maxSteps := 2000000) +contextual [e0, e1, e7, e8, e10, e11, -decide_eq_true_eq, -decide_eq_false_iff_not]
            refine ⟨o1 _, o1 _, ?_⟩
            refine ⟨fun a _ => rfl, ?_⟩
            refine (gS.mono ((SLe.refl S).set hb13 _)).appendT (hss.set hb13 _) [TreeT.mk (.mk w.tag ⟨#[]⟩ w.key (joinA (tAt old g.toNat).attrs w.attrs) (den w.kids (tAt old g.toNat).kids)) .ro .ro] rfl rfl (by simp; omega) (by simp only [List.length_singleton]; omega) ?_
            intro out' tok' s2 hout' q1 q2 q3 q4
            simp (maxSteps := 2000000) +contextual [e0, e1, e7, e8, e10, e11, -decide_eq_true_eq, -decide_eq_false_iff_not]
            exact fin out' tok' s2 (by rw [hout', List.map_append, hout, hnext, hdw]; rfl) q4 q1
          · have hto : tkO old g = none := by simp [tkO, hg0]
            have hsub := hsub none (by simp) .nil
            rw [hto] at hdw
            simp only [kidsO, List.map_nil] at hdw hsub
            simp (maxSteps := 2000000) +contextual [e0, e1, e7, e8, e10, e11, g1, htk2, intD_length, intD_def, hi1, decide_eq_false hg0, s12, n13, n13', -decide_eq_true_eq, -decide_eq_false_iff_not]
            refine c_rnewA _ _ (by omega) _ _ ?_
            simp (maxSteps := 2000000) +contextual [e0, e1, e7, e8, e10, e11, s12, n13, n13', -decide_eq_true_eq, -decide_eq_false_iff_not]
            refine hsub _ _ ?_
            simp (maxSteps := 2000000) +contextual [e0, e1, e7, e8, e10, e11, -decide_eq_true_eq, -decide_eq_false_iff_not]
            refine ⟨fun a _ => rfl, ?_⟩
            refine (gS.mono ((SLe.refl S).set hb13 _)).appendT (hss.set hb13 _) [TreeT.mk (.mk w.tag ⟨#[]⟩ w.key (newA w.attrs) (den w.kids [])) .ro .ro] rfl rfl (by simp; omega) (by simp only [List.length_singleton]; omega) ?_
            intro out' tok' s2 hout' q1 q2 q3 q4
            simp (maxSteps := 2000000) +contextual [e0, e1, e7, e8, e10, e11, -decide_eq_true_eq, -decide_eq_false_iff_not]
            exact fin out' tok' s2 (by rw [hout', List.map_append, hout, hnext, hdw]; rfl) q4 q1
        · by_cases k2 : w.kind = 2
          · have hdw : denW w g M.kept old = [.mk ⟨#[]⟩ w.text ⟨#[]⟩ [] []] := by rw [denW_eq, if_pos k2]
            simp (maxSteps := 2000000) +contextual [s12, e0, e1, e7, e8, e10, e11, decide_eq_true k2, decide_eq_false k1, -decide_eq_true_eq, -decide_eq_false_iff_not]
            refine ⟨fun a _ => rfl, ?_⟩
            refine gS.appendT hss [(TreeT.mk (.mk ⟨#[]⟩ w.text ⟨#[]⟩ [] []) .nil .nil)] rfl rfl (by simp; omega) (by simp only [List.length_singleton]; omega) ?_
            intro out' tok' s2 hout' q1 q2 q3 q4
            simp (maxSteps := 2000000) +contextual [e0, e1, e7, e8, e10, e11, -decide_eq_true_eq, -decide_eq_false_iff_not]
            exact fin out' tok' s2 (by rw [hout', List.map_append, hout, hnext, hdw]; rfl) q4 q1
          · by_cases k3 : w.kind = 3
            · have hdw : denW w g M.kept old = (tkO old g).toList := by rw [denW_eq, if_neg k2, if_neg k1, if_pos k3]
              by_cases hg0 : 0 ≤ g
              · have hto : tkO old g = some (tAt old g.toNat) := by simp [tkO, hg0]
                have hxo : old[g.toNat]? = some (tAt old g.toNat) := by rw [List.getElem?_eq_getElem (hgo hg0), tAt_get (hgo hg0)]
                rw [hto] at hdw
                simp (maxSteps := 2000000) +contextual [s12, e0, e1, e7, e8, e10, e11, decide_eq_true k3, decide_eq_false k1, decide_eq_false k2, decide_eq_true hg0, g1, htk2, intD_length, intD_def, hi1, hxo, hgl, hg0, treeD_length, tAt_get (hgo hg0), -decide_eq_true_eq, -decide_eq_false_iff_not]
                refine ⟨fun a _ => rfl, ?_⟩
                refine gS.appendT hss [(TreeT.mk (tAt old g.toNat) .ro .ro)] (treeT_of _) rfl (by simp; omega) (by simp only [List.length_singleton]; omega) ?_
                intro out' tok' s2 hout' q1 q2 q3 q4
                simp (maxSteps := 2000000) +contextual [e0, e1, e7, e8, e10, e11, -decide_eq_true_eq, -decide_eq_false_iff_not]
                exact fin out' tok' s2 (by rw [hout', List.map_append, hout, hnext, hdw]; rfl) q4 q1
              · have hto : tkO old g = none := by simp [tkO, hg0]
                rw [hto] at hdw
                simp (maxSteps := 2000000) +contextual [s12, e0, e1, e7, e8, e10, e11, decide_eq_true k3, decide_eq_false k1, decide_eq_false k2, decide_eq_false hg0, g1, htk2, intD_length, intD_def, hi1, -decide_eq_true_eq, -decide_eq_false_iff_not]
                exact fin out tok S (by rw [hout, hnext, hdw]; simp) gS hss
            · by_cases k4 : w.kind = 4
              · have hdw : denW w g M.kept old = M.kept.map (tAt old) := by rw [denW_eq, if_neg k2, if_neg k1, if_neg k3, if_pos k4]
                simp (maxSteps := 2000000) +contextual [s12, e0, e1, e7, e8, e10, e11, decide_eq_true k4, decide_eq_false k1, decide_eq_false k2, decide_eq_false k3, -decide_eq_true_eq, -decide_eq_false_iff_not]
                refine hloop_intro (fun n1 e s => ∃ (k : Nat) (out : List TreeT) (tok : Tok), k + n1 = M.kept.length ∧ e 0 = .list (ws.map wantD) t0 ∧ e 1 = .list (old.map treeD) t1 ∧ e 7 = .list (M.take.map intD) .ro ∧ e 8 = .list (M.kept.map natD) .ro ∧ e 10 = .list (out.map treeT) tok ∧ e 11 = .int .i64 i ∧
                  e 14 = .int .i64 k ∧ GrV 5 σ (out.map treeT) tok s ∧ SLe σ s ∧ Sm (out.map TreeT.t) (denL (ws.take i) M.take M.kept old ++ (M.kept.take k).map (tAt old))) M.kept.length ?_ ?_
                · refine ⟨0, out, tok, by simp, ?_⟩
                  simp (maxSteps := 2000000) +contextual [e0, e1, e7, e8, e10, e11, -decide_eq_true_eq, -decide_eq_false_iff_not]
                  exact ⟨gS, hss, by show _ = _; simp [hout]⟩
                · rintro n1 e s ⟨k, out, tok, hk, e0, e1, e7, e8, e10, e11, e14, gS, hss, hout⟩
                  have hout : out.map TreeT.t = _ := hout
                  by_cases hk4 : k < M.kept.length
                  · obtain ⟨x, hx, hx2⟩ : ∃ x, M.kept[k]? = some x ∧ M.kept[k] = x := ⟨_, List.getElem?_eq_getElem hk4, rfl⟩
                    have hxl : x < old.length := by have := hklt x (List.mem_of_getElem? hx); omega
                    have hlen : out.length ≤ i * (1 + M.kept.length) + k := by
                      have h1 : (out.map TreeT.t).length = out.length := by simp
                      have h2 := denL_len (ws.take i) M.take M.kept old
                      rw [hil] at h2
                      rw [← h1, hout, List.length_append]
                      simp; omega
                    have hxo : old[x]? = some (tAt old x) := by rw [List.getElem?_eq_getElem hxl, tAt_get hxl]
                    have hnk : M.kept.take (k + 1) = M.kept.take k ++ [x] := take_next hx
                    simp (maxSteps := 2000000) +contextual [e0, e1, e7, e8, e10, e11, e14, hk4, hx, hx2, natD_length, natD_def, hxo, hxl, treeD_length, tAt_get hxl, -decide_eq_true_eq, -decide_eq_false_iff_not]
                    refine ⟨fun a _ => rfl, ?_⟩
                    refine gS.appendT hss [TreeT.mk (tAt old x) .ro .ro] (treeT_of _) rfl (by simp; omega) (by simp only [List.length_singleton]; omega) ?_
                    intro out' tok' s2 hout' q1 q2 q3 q4
                    simp (maxSteps := 2000000) +contextual [e0, e1, e7, e8, e10, e11, e14, -decide_eq_true_eq, -decide_eq_false_iff_not]
                    refine ⟨n1 - 1, by omega, s2, SLe.refl _, k + 1, by omega, out', tok', ⟨rfl, rfl⟩, by rw [wrap_i64] <;> omega, q4, q1, ?_⟩
                    show _ = _
                    rw [hout', List.map_append, hout, ← List.map_take, hnk, List.map_append, List.append_assoc]; rfl
                  · have hkk : M.kept.take k = M.kept := List.take_of_length_le (by omega)
                    rw [hkk] at hout
                    simp (maxSteps := 2000000) +contextual [e0, e1, e7, e8, e10, e11, e14, hk4, -decide_eq_true_eq, -decide_eq_false_iff_not]
                    exact ⟨n - 1, by omega, s, SLe.refl _, i + 1, by omega, out, tok, ⟨rfl, rfl⟩, by rw [wrap_i64] <;> omega, gS, hss, by show _ = _; rw [hout, hnext, hdw]⟩
              · have hdw : denW w g M.kept old = [] := by rw [denW_eq, if_neg k2, if_neg k1, if_neg k3, if_neg k4]
                simp (maxSteps := 2000000) +contextual [s12, e0, e1, e7, e8, e10, e11, decide_eq_false k1, decide_eq_false k2, decide_eq_false k3, decide_eq_false k4, -decide_eq_true_eq, -decide_eq_false_iff_not]
                exact fin out tok S (by rw [hout, hnext, hdw]; simp) gS hss
      · have hi2 : ws.take i = ws := List.take_of_length_le (by omega)
        rw [hi2] at hout
        simp (maxSteps := 2000000) +contextual [e0, e1, e7, e8, e10, e11, h4, -decide_eq_true_eq, -decide_eq_false_iff_not]
        refine ⟨hs, ?_⟩
        have := treeT_wk out tok
        rwa [hout] at this
theorem c_rtrees : ∀ (n : Nat) (ws : List Want) (old : List Tree) (t0 t1 : Tok), szL ws < n → szL ws ≤ 1024 → old.length ≤ 1048576 → (∀ x ∈ old, FitT x) →
    Ret Try.prog 15 [.list (ws.map wantD) t0, .list (old.map treeD) t1] (.list ((den ws old).map treeD) .ro) := by
  intro n
  induction n with
  | zero => intro ws old t0 t1 h; omega
  | succ n ih =>
    intro ws old t0 t1 hn hw hol ho
    refine c_rtrees_of ws old t0 t1 hw hol ho fun w hwm o hfo tk => ?_
    have h1 := sz_mem hwm
    have h2 := szW_eq w
    obtain ⟨k1, k2⟩ := kids_fit hfo
    exact ih w.kids (kidsO o) .ro tk (by omega) (by omega) k1 k2
end Go.HL
/- The laws of layer 17: what both call, and DenoteTells. -/
set_option linter.unusedVariables false
set_option linter.unusedSimpArgs false
set_option maxRecDepth 100000
set_option maxHeartbeats 8000000
namespace Go.HL
open Go.RowKit Go.Proofs

theorem c_all8 (l : List Tree) (t0 : Tok) (most : Int) (h0 : 0 ≤ most) (hb : most ≤ 1048575) : Ret Try.prog 64 [.list (l.map treeD) t0, .int .i64 most] (.int .i64 (manyTs l 0 most)) := by
  refine Ret.of fun σ => ?_
  refine HCalls.start mixed false _ _ (fn := Try.f64) (by kernel_rfl) rfl (by kernel_rfl) rfl (by kernel_rfl) (by kernel_rfl) ?_
  simp (maxSteps := 2000000) +contextual [-decide_eq_true_eq, -decide_eq_false_iff_not]
  refine hloop_fix (fun n e => ∃ (i : Nat) (k : Int), i + n = l.length ∧ e 0 = .list (l.map treeD) t0 ∧ e 1 = .int .i64 most ∧ e 5 = .int .i64 k ∧ e 6 = .int .i64 i ∧ (i : Int) ≤ k ∧ k ≤ most + 1 ∧ manyTs l 0 most = manyTs (l.drop i) k most) l.length ?_ ?_
  · refine ⟨0, 0, by simp, ?_⟩
    simp (maxSteps := 2000000) +contextual [-decide_eq_true_eq, -decide_eq_false_iff_not]
    omega
  · rintro m e ⟨i, k, hi, e0, e1, e5, e6, hk1, hk2, hq⟩
    by_cases h4 : i < l.length
    · obtain ⟨x, hx, hx2⟩ : ∃ x, l[i]? = some x ∧ l[i] = x := ⟨_, List.getElem?_eq_getElem h4, rfl⟩
      rw [List.drop_eq_getElem_cons h4, hx2] at hq
      simp only [manyTs] at hq
      by_cases hkm : k ≤ most
      · rw [if_pos hkm] at hq
        have r1 := manyT_rng x (most := most - k) (by omega)
        have hw1 : IntKind.i64.wrap (most - k) = most - k := by rw [wrap_i64] <;> omega
        have hw2 : IntKind.i64.wrap (k + manyT x (most - k)) = k + manyT x (most - k) := by rw [wrap_i64] <;> omega
        simp (maxSteps := 2000000) +contextual [e0, e1, e5, e6, h4, decide_eq_true hkm, hx, hx2, treeD_length, hw1, -decide_eq_true_eq, -decide_eq_false_iff_not]
        refine c_many _ x (most - k) (Nat.lt_succ_self _) (by omega) (by omega) _ _ ?_
        simp (maxSteps := 2000000) +contextual [e0, e1, e5, e6, hw2, -decide_eq_true_eq, -decide_eq_false_iff_not]
        exact ⟨m - 1, by omega, i + 1, by omega, by rw [wrap_i64] <;> omega, by omega, by omega, hq⟩
      · rw [if_neg hkm] at hq
        simp (maxSteps := 2000000) +contextual [e0, e1, e5, e6, h4, decide_eq_false hkm, -decide_eq_true_eq, -decide_eq_false_iff_not]
        exact hq.symm
    · rw [List.drop_eq_nil_of_le (by omega)] at hq
      simp (maxSteps := 2000000) +contextual [e0, e1, e5, e6, h4, -decide_eq_true_eq, -decide_eq_false_iff_not]
      exact hq.symm
theorem manyTs_small {l : List Tree} {most : Int} (hb : most ≤ 1048575) (h : manyTs l 0 most ≤ most) : manyTs l 0 most = cntTs l ∧ ∀ t ∈ l, FitT t := by
  have := (many_small (cntTs l + 1)).2 l (by omega) 0 most (by omega) hb h
  exact ⟨by omega, this.2⟩
theorem c_alike8 (A B : List Tree) (t1 t2 : Tok) (hl : A.length ≤ 1048576) (hA : ∀ t ∈ A, FitT t) : Ret Try.prog 13 [.list (A.map treeD) t1, .list (B.map treeD) t2] (.bool (eqTs A B)) := by
  refine Ret.of fun σ => ?_
  have w1 := Wk.tree (a := ⟨#[]⟩) (b := ⟨#[]⟩) (c := ⟨#[]⟩) (attrs := []) (kids := A) (da := .list [] .nil) (.list _ _) (.list _ t1)
  have w2 := Wk.tree (a := ⟨#[]⟩) (b := ⟨#[]⟩) (c := ⟨#[]⟩) (attrs := []) (kids := B) (da := .list [] .nil) (.list _ _) (.list _ t2)
  have hf : FitT (.mk ⟨#[]⟩ ⟨#[]⟩ ⟨#[]⟩ [] A) := .mk _ (show (ByteArray.mk #[]).size ≤ 1048576 ∧ (ByteArray.mk #[]).size ≤ 1048576 ∧ (ByteArray.mk #[]).size ≤ 1048576 by decide) ⟨by simp [Tree.attrs], by simp [Tree.attrs]⟩ hl hA
  have he : eqT (.mk ⟨#[]⟩ ⟨#[]⟩ ⟨#[]⟩ [] A) (.mk ⟨#[]⟩ ⟨#[]⟩ ⟨#[]⟩ [] B) = eqTs A B := by rw [eqT_eq]; simp [Tree.tag, Tree.text, Tree.key, Tree.attrs, Tree.kids]
  refine HCalls.start mixed false _ _ (fn := Try.f13) (by kernel_rfl) rfl (by kernel_rfl) rfl (by kernel_rfl) (by kernel_rfl) ?_
  simp (maxSteps := 2000000) +contextual [-decide_eq_true_eq, -decide_eq_false_iff_not]
  refine HCalls.pre2 w1 w2 (c_rtsame _ _ _ (Nat.lt_succ_self _) hf _ _ ?_)
  rw [he]
  simp (maxSteps := 2000000) +contextual [-decide_eq_true_eq, -decide_eq_false_iff_not]
def wants17 (l : List Ins) (old : List Tree) : Prop := ((fewI l = true ∧ manyTs old 0 60 ≤ 60) ∧ mayTs old = true) ∧ chkP l = 0
instance (l : List Ins) (old : List Tree) : Decidable (wants17 l old) := by unfold wants17; infer_instance
def wants17D (l : List Ins) (old : List Tree) : D := if wants17 l old then .tup [.list ((someP l).1.map wantD) .ro, .bool true] else .tup [.list [] .ro, .bool false]
theorem c_wants17 (l : List Ins) (old : List Tree) (t0 t1 : Tok) : Ret Try.prog 12 [.list (l.map insD) t0, .list (old.map treeD) t1] (wants17D l old) := by
  refine Ret.weak fun σ => ?_
  unfold wants17D
  have no : ∀ tk, ¬ wants17 l old → Wk (.tup [.list [] tk, .bool false]) (if wants17 l old then .tup [.list ((someP l).1.map wantD) .ro, .bool true] else .tup [.list [] .ro, .bool false]) := fun tk h => by rw [if_neg h]; exact Wk.two (.list _ _) (.refl _)
  refine HCalls.start mixed false _ _ (fn := Try.f12) (by kernel_rfl) rfl (by kernel_rfl) rfl (by kernel_rfl) (by kernel_rfl) ?_
  simp (maxSteps := 2000000) +contextual [-decide_eq_true_eq, -decide_eq_false_iff_not]
  refine c_few12 l t0 _ _ ?_
  cases hfew : fewI l with
  | false =>
    simp (maxSteps := 2000000) +contextual [-decide_eq_true_eq, -decide_eq_false_iff_not]
    exact no .nil (by simp [wants17, hfew])
  | true =>
    simp (maxSteps := 2000000) +contextual [-decide_eq_true_eq, -decide_eq_false_iff_not]
    refine c_all8 old t1 60 (by omega) (by omega) _ _ ?_
    by_cases hm : 60 < manyTs old 0 60
    · simp (maxSteps := 2000000) +contextual [decide_eq_true hm, -decide_eq_true_eq, -decide_eq_false_iff_not]
      exact no .nil (by intro h; have := h.1.1.2; omega)
    · simp (maxSteps := 2000000) +contextual [decide_eq_false hm, -decide_eq_true_eq, -decide_eq_false_iff_not]
      obtain ⟨g1, g2⟩ := manyTs_small (l := old) (most := 60) (by omega) (by omega)
      have hol := cntTs_len old
      refine hloop_fix (fun n e => ∃ i : Nat, i + n = old.length ∧ e 0 = .list (l.map insD) t0 ∧ e 1 = .list (old.map treeD) t1 ∧ e 6 = .int .i64 i ∧ mayTs old = mayTs (old.drop i)) old.length ?_ ?_
      · refine ⟨0, by simp, ?_⟩
        simp (maxSteps := 2000000) +contextual [-decide_eq_true_eq, -decide_eq_false_iff_not]
      · rintro m e ⟨i, hi, e0, e1, e6, hq⟩
        by_cases h4 : i < old.length
        · obtain ⟨x, hx, hx2⟩ : ∃ x, old[i]? = some x ∧ old[i] = x := ⟨_, List.getElem?_eq_getElem h4, rfl⟩
          rw [mayTs_drop _ h4, hx2] at hq
          simp (maxSteps := 2000000) +contextual [e0, e1, e6, h4, hx, hx2, treeD_length, -decide_eq_true_eq, -decide_eq_false_iff_not]
          refine c_rtmay _ x (Nat.lt_succ_self _) (g2 x (List.mem_of_getElem? hx)) _ _ ?_
          cases hmx : mayT x with
          | false =>
            rw [hmx, Bool.false_and] at hq
            simp (maxSteps := 2000000) +contextual [e0, e1, e6, -decide_eq_true_eq, -decide_eq_false_iff_not]
            exact no .nil (by intro h; have := h.1.2; rw [hq] at this; cases this)
          | true =>
            rw [hmx, Bool.true_and] at hq
            simp (maxSteps := 2000000) +contextual [e0, e1, e6, -decide_eq_true_eq, -decide_eq_false_iff_not]
            exact ⟨m - 1, by omega, i + 1, by omega, by rw [wrap_i64] <;> omega, hq⟩
        · rw [List.drop_eq_nil_of_le (by omega)] at hq
          simp (maxSteps := 2000000) +contextual [e0, e1, e6, h4, -decide_eq_true_eq, -decide_eq_false_iff_not]
          refine c_wof l t0 (fewI_fit hfew) _ _ ?_
          unfold ofD
          by_cases h : chkP l = 0
          · rw [if_pos h]
            have hw : wants17 l old := ⟨⟨⟨hfew, by omega⟩, hq⟩, h⟩
            rw [if_pos hw]
            simp (maxSteps := 2000000) +contextual [e0, e1, e6, -decide_eq_true_eq, -decide_eq_false_iff_not]
            refine hdraw_intro (by kernel_rfl) ?_
            simp (maxSteps := 2000000) +contextual [-decide_eq_true_eq, -decide_eq_false_iff_not]
            exact Wk.refl _
          · have he : errD (chkP l) = .lit (.iface 62 (.int .i64 (chkP l))) := by simp [errD, h]
            rw [if_neg h, he]
            simp (maxSteps := 2000000) +contextual [e0, e1, e6, -decide_eq_true_eq, -decide_eq_false_iff_not]
            refine hdraw_intro (by kernel_rfl) ?_
            simp (maxSteps := 2000000) +contextual [-decide_eq_true_eq, -decide_eq_false_iff_not]
            exact no .nil (by intro hh; exact h hh.2)
def nulT : Tree := .mk ⟨#[]⟩ ⟨#[]⟩ ⟨#[]⟩ [] []
theorem tAt_all {P : Tree → Prop} {old : List Tree} (h : ∀ x ∈ old, P x) (hd : P nulT) (i : Nat) : P (tAt old i) := by
  unfold tAt
  rw [List.getD_eq_getElem?_getD]
  cases hx : old[i]? with
  | none => exact hd
  | some x => exact h x (List.mem_of_getElem? hx)
theorem den_all {Q P : Tree → Prop} {ws : List Want} {old : List Tree} (h0 : ∀ x ∈ old, Q x) (hd : Q nulT) (hQ : ∀ x, Q x → P x) (h2 : ∀ w ∈ ws, w.kind = 2 → P (.mk ⟨#[]⟩ w.text ⟨#[]⟩ [] []))
    (h1 : ∀ w ∈ ws, w.kind = 1 → ∀ o, (∀ x, o = some x → Q x) → P (elemT w.tag w.key w.attrs (den w.kids) o)) : ∀ t ∈ den ws old, P t := by
  unfold den
  generalize (mof (old.map oldT) ws).take = ts
  generalize (mof (old.map oldT) ws).kept = kept
  induction ws generalizing ts with
  | nil => intro t ht; simp [denL] at ht
  | cons w r ih =>
    intro t ht
    simp only [denL, List.mem_append] at ht
    rcases ht with ht | ht
    · rw [denW_eq] at ht
      split at ht
      · rename_i k2; simp at ht; subst ht; exact h2 w (by simp) k2
      · split at ht
        · rename_i k1
          simp at ht; subst ht
          refine h1 w (by simp) k1 _ fun x hx => ?_
          unfold tkO at hx
          split at hx
          · injection hx with hx; subst hx; exact tAt_all h0 hd _
          · cases hx
        · split at ht
          · unfold tkO at ht
            split at ht
            · simp at ht; subst ht; exact hQ _ (tAt_all h0 hd _)
            · simp at ht
          · split at ht
            · obtain ⟨k, -, rfl⟩ := List.mem_map.1 ht; exact hQ _ (tAt_all h0 hd _)
            · simp at ht
    · exact ih (fun w hw => h2 w (by simp [hw])) (fun w hw => h1 w (by simp [hw])) ts.tail t ht
theorem may_fits {l : List Attr} (h : mayAttrs l = true) : FitsA l := by
  obtain ⟨h1, h2, -⟩ := (mayA_iff l).1 h
  exact ⟨by omega, fun a ha => ⟨by have := mayName_le (h2 a ha).1; omega, by have := mayText_le (h2 a ha).2; omega⟩⟩
theorem OkL.inv {ws : List Want} (h : OkL ws) : (∀ w ∈ ws, Ok1 w) ∧ (∀ w ∈ ws, OkL w.kids) ∧ LastAll ws ∧ KeysNd ws := by
  cases h with
  | mk _ h1 h2 h3 h4 => exact ⟨h1, h2, h3, h4⟩
theorem nul_fit : FitT nulT := fit_leaf _ (by decide) rfl rfl
theorem den_len (ws : List Want) (old : List Tree) : (den ws old).length ≤ ws.length * (1 + old.length) := by
  have h1 := denL_len ws (mof (old.map oldT) ws).take (mof (old.map oldT) ws).kept old
  have h2 := mof_kept (old.map oldT) ws
  rw [List.length_map] at h2
  exact Nat.le_trans h1 (Nat.mul_le_mul_left _ (by omega))
theorem fit_den : ∀ (n : Nat) (ws : List Want) (old : List Tree), szL ws < n → szL ws ≤ 1000 → OkL ws → cntTs old ≤ 1000 → (∀ x ∈ old, FitT x) → (den ws old).length ≤ 1048576 ∧ ∀ t ∈ den ws old, FitT t := by
  intro n
  induction n with
  | zero => intro ws old h; omega
  | succ n ih =>
    intro ws old hn hs hok hc ho
    obtain ⟨o1, o2, -, -⟩ := hok.inv
    have hwl := sz_len ws
    have hol := cntTs_len old
    refine ⟨?_, den_all (Q := fun x => FitT x ∧ cntT x ≤ 1000) (fun x hx => ⟨ho x hx, by have := cntT_mem hx; omega⟩) ⟨nul_fit, by decide⟩ (fun x h => h.1) (fun w hw k2 => ?_) fun w hw k1 o hQ => ?_⟩
    · have h1 := den_len ws old
      have h2 : ws.length * (1 + old.length) ≤ 1000 * 1001 := Nat.mul_le_mul (by omega) (by omega)
      omega
    · have := mayText_le ((o1 w hw).text k2)
      exact fit_leaf _ ⟨(show (ByteArray.mk #[]).size ≤ 1048576 by decide), (by show w.text.size ≤ 1048576; omega), (show (ByteArray.mk #[]).size ≤ 1048576 by decide)⟩ rfl rfl
    · obtain ⟨a1, a2, a3, -⟩ := (o1 w hw).elem k1
      have hf := may_fits a3
      have b1 := mayName_le a1
      have b2 := mayText_le a2
      have hsz := sz_mem hw
      have hsz2 := szW_eq w
      have hk : cntTs (kidsO o) ≤ 1000 ∧ ∀ x ∈ kidsO o, FitT x := by
        cases o with
        | none => exact ⟨by simp [kidsO, cntTs], by simp [kidsO]⟩
        | some x => have := hQ x rfl; have h2 := cntT_eq x; exact ⟨by show cntTs x.kids ≤ _; omega, this.1.inv.2.2.2⟩
      obtain ⟨i1, i2⟩ := ih w.kids (kidsO o) (by omega) (by omega) (o2 w hw) hk.1 hk.2
      rw [elemT_eq]
      refine .mk _ ⟨(by show w.tag.size ≤ 1048576; omega), (show (ByteArray.mk #[]).size ≤ 1048576 by decide), (by show w.key.size ≤ 1048576; omega)⟩ ?_ i1 i2
      cases o with
      | none => exact new_fits hf (by have := hf.1; have := (mayA_iff w.attrs).1 a3; omega)
      | some x => exact join_fits (hQ x rfl).1.inv.2.1 hf
def upD17 : Want := .mk 2 ⟨#[]⟩ ⟨#[]⟩ ⟨#[98]⟩ [] []
def upA17 : Want := .mk 4 ⟨#[]⟩ ⟨#[]⟩ ⟨#[]⟩ [] []
theorem up17_a : den [upD17] [upA] = [.mk ⟨#[]⟩ ⟨#[98]⟩ ⟨#[]⟩ [] []] := by
  unfold den
  simp only [denL, denW_eq, List.append_nil]
  rfl
theorem up17_m : (mof [oldT upA] [upA17]).kept = [0] := by decide +kernel
theorem up17_b : (den [upA17] [upA]).length = 1 := by
  unfold den
  simp only [denL, denW_eq, List.append_nil, List.map_cons, List.map_nil, up17_m]
  rfl
theorem c_up17 : Ret Try.prog 11 [] (.bool true) := by
  refine Ret.of fun σ => ?_
  have k1 := wantT_wk [⟨upD17, .nil, .nil⟩] .full
  have k2 := wantT_wk [⟨upA17, .nil, .nil⟩] .full
  have k3 := treeT_wk [⟨upA, .nil, .nil⟩] .full
  have fa : ∀ x ∈ [upA], FitT x := fun x hx => by simp at hx; subst hx; exact fit_leaf _ (by decide) rfl rfl
  refine HCalls.start mixed false _ _ (fn := Try.f11) (by kernel_rfl) rfl (by kernel_rfl) rfl (by kernel_rfl) (by kernel_rfl) ?_
  simp (maxSteps := 2000000) +contextual [-decide_eq_true_eq, -decide_eq_false_iff_not]
  refine HCalls.pre2 k1 k3 (c_den _ [upD17] [upA] .ro .ro (Nat.lt_succ_self _) (by decide) (by decide) fa _ _ ?_)
  rw [up17_a]
  simp (maxSteps := 2000000) +contextual [treeD_eq, Tree.tag, Tree.text, Tree.key, Tree.attrs, Tree.kids, -decide_eq_true_eq, -decide_eq_false_iff_not]
  refine HCalls.pre2 k2 k3 (c_den _ [upA17] [upA] .ro .ro (Nat.lt_succ_self _) (by decide) (by decide) fa _ _ ?_)
  have hb := up17_b
  simp (maxSteps := 2000000) +contextual [hb, -decide_eq_true_eq, -decide_eq_false_iff_not]
theorem c_lawDT (l : List Ins) (old : List Tree) (t0 t1 : Tok) : Ret Try.prog 3 [.list (l.map insD) t0, .list (old.map treeD) t1] (.bool true) := by
  refine Ret.of fun σ => ?_
  refine HCalls.start mixed false _ _ (fn := Try.f3) (by kernel_rfl) rfl (by kernel_rfl) rfl (by kernel_rfl) (by kernel_rfl) ?_
  simp (maxSteps := 2000000) +contextual [-decide_eq_true_eq, -decide_eq_false_iff_not]
  refine c_up17 _ _ ?_
  simp (maxSteps := 2000000) +contextual [-decide_eq_true_eq, -decide_eq_false_iff_not]
  refine c_wants17 l old t0 t1 _ _ ?_
  unfold wants17D
  by_cases hw : wants17 l old
  · rw [if_pos hw]
    have hsz := someP_sz l
    have hl := (fewI_fits hw.1.1.1).1
    have hok := ok_of hw.2
    obtain ⟨g1, g2⟩ := manyTs_small (l := old) (most := 60) (by omega) hw.1.1.2
    have hm := hw.1.1.2
    generalize (someP l).1 = ws at *
    have hol := cntTs_len old
    obtain ⟨f1, f2⟩ := fit_den _ ws old (Nat.lt_succ_self _) (by omega) hok (by omega) g2
    have he : eqTs (den ws old) (den ws old) = true := (eqTs_iff _ _ _ (Nat.lt_succ_self _)).2 rfl
    simp (maxSteps := 2000000) +contextual [-decide_eq_true_eq, -decide_eq_false_iff_not]
    refine c_den _ ws old .ro t1 (Nat.lt_succ_self _) (by omega) (by omega) g2 _ _ ?_
    simp (maxSteps := 2000000) +contextual [-decide_eq_true_eq, -decide_eq_false_iff_not]
    refine c_as _ ws .ro (Nat.lt_succ_self _) (by omega) _ _ ?_
    simp (maxSteps := 2000000) +contextual [-decide_eq_true_eq, -decide_eq_false_iff_not]
    refine c_rtrees _ ws old .ro t1 (Nat.lt_succ_self _) (by omega) (by omega) g2 _ _ ?_
    simp (maxSteps := 2000000) +contextual [-decide_eq_true_eq, -decide_eq_false_iff_not]
    refine c_alike8 _ _ _ _ f1 f2 _ _ ?_
    rw [he]
    simp (maxSteps := 2000000) +contextual [-decide_eq_true_eq, -decide_eq_false_iff_not]
  · rw [if_neg hw]
    simp (maxSteps := 2000000) +contextual [-decide_eq_true_eq, -decide_eq_false_iff_not]
end Go.HL
/- The law DenoteTwice. -/
set_option linter.unusedVariables false
set_option linter.unusedSimpArgs false
set_option maxRecDepth 100000
set_option maxHeartbeats 8000000
namespace Go.HL
open Go.RowKit Go.Proofs

mutual
def stW : Want → Nat
  | .mk k _ _ _ _ ks => (if k = 3 then 1 else if k = 4 then 1 else 0) + stL ks
def stL : List Want → Nat
  | [] => 0
  | w :: r => stW w + stL r
end
theorem stW_eq (w : Want) : stW w = (if w.kind = 3 then 1 else if w.kind = 4 then 1 else 0) + stL w.kids := by cases w; rfl
theorem stL_append (a b : List Want) : stL (a ++ b) = stL a + stL b := by
  induction a with
  | nil => simp [stL]
  | cons w a ih => simp only [List.cons_append, stL, ih]; omega
theorem stL_mem {w : Want} {l : List Want} (h : w ∈ l) : stW w ≤ stL l := by
  induction l with
  | nil => simp at h
  | cons x l ih =>
    simp only [stL]
    rcases List.mem_cons.1 h with rfl | h
    · omega
    · have := ih h; omega
theorem stL_sz : ∀ (m : Nat) (l : List Want), szL l < m → stL l ≤ szL l := by
  intro m
  induction m with
  | zero => intro l h; omega
  | succ m ih =>
    intro l
    induction l with
    | nil => intro _; simp [stL]
    | cons w r ih2 =>
      intro h
      simp only [szL] at h ⊢
      have h2 := szW_eq w
      have h3 := ih w.kids (by omega)
      have h4 := ih2 (by omega)
      have h5 := stW_eq w
      simp only [stL]
      split at h5
      · omega
      · split at h5 <;> omega
mutual
def shW : Want → Tree → Bool
  | .mk _ t ke te _ ks, .mk t' te' ke' _ ks' => (((decide (t = t') && decide (ke = ke')) && decide (te = te'))) && shL ks ks'
def shL : List Want → List Tree → Bool
  | [], [] => true
  | w :: r, t :: s => shW w t && shL r s
  | _, _ => false
end
theorem shW_eq (w : Want) (t : Tree) : shW w t = ((((decide (w.tag = t.tag) && decide (w.key = t.key)) && decide (w.text = t.text))) && shL w.kids t.kids) := by cases w; cases t; rfl
theorem shL_len : ∀ {a : List Want} {b : List Tree}, shL a b = true → a.length = b.length := by
  intro a
  induction a with
  | nil => intro b h; cases b; rfl; simp [shL] at h
  | cons w a ih => intro b h; cases b with
    | nil => simp [shL] at h
    | cons t b => simp only [shL, Bool.and_eq_true] at h; simp [ih h.2]
theorem shL_all {a : List Want} {b : List Tree} (hl : a.length = b.length) (h : ∀ (i : Nat) (w : Want) (t : Tree), a[i]? = some w → b[i]? = some t → shW w t = true) : shL a b = true := by
  induction a generalizing b with
  | nil => cases b with
    | nil => rfl
    | cons t b => simp at hl
  | cons w a ih => cases b with
    | nil => simp at hl
    | cons t b =>
      simp only [shL, Bool.and_eq_true]
      exact ⟨h 0 w t rfl rfl, ih (by simpa using hl) fun i w' t' h1 h2 => h (i + 1) w' t' (by simpa using h1) (by simpa using h2)⟩
/-! The plain law. -/
def oneT (w : Want) (t : Int) (old : List Tree) : Tree := if w.kind = 2 then .mk ⟨#[]⟩ w.text ⟨#[]⟩ [] [] else elemT w.tag w.key w.attrs (den w.kids) (tkO old t)
theorem denW_one {w : Want} (h : stW w = 0) (ho : Ok1 w) (t : Int) (kept : List Nat) (old : List Tree) : denW w t kept old = [oneT w t old] := by
  rw [denW_eq]
  unfold oneT
  by_cases k2 : w.kind = 2
  · rw [if_pos k2, if_pos k2]
  · have hk := stW_eq w
    have hr := ho.kinds
    have k1 : w.kind = 1 := by
      by_cases k3 : w.kind = 3
      · rw [if_pos k3] at hk; omega
      · by_cases k4 : w.kind = 4
        · rw [if_neg k3, if_pos k4] at hk; omega
        · omega
    rw [if_neg k2, if_pos k1, if_neg k2]
theorem denL_ones {ws : List Want} (h : stL ws = 0) (ho : ∀ w ∈ ws, Ok1 w) (ts : List Int) (kept : List Nat) (old : List Tree) : (denL ws ts kept old).length = ws.length ∧ ∀ (i : Nat) (w : Want), ws[i]? = some w → (denL ws ts kept old)[i]? = some (oneT w (ts.getD i (-1)) old) := by
  induction ws generalizing ts with
  | nil => exact ⟨rfl, fun i w h => by simp at h⟩
  | cons v r ih =>
    simp only [stL] at h
    obtain ⟨i1, i2⟩ := ih (by omega) (fun w hw => ho w (by simp [hw])) ts.tail
    have hv := denW_one (w := v) (by omega) (ho v (by simp)) (ts.headD (-1)) kept old
    simp only [denL, hv, List.singleton_append, List.length_cons, i1, true_and]
    intro i w hw
    cases i with
    | zero => simp at hw; subst hw; cases ts <;> simp
    | succ i =>
      simp only [List.getElem?_cons_succ] at hw ⊢
      rw [i2 i w hw]
      cases ts <;> simp
theorem den_ones {ws : List Want} (h : stL ws = 0) (ho : ∀ w ∈ ws, Ok1 w) (old : List Tree) : (den ws old).length = ws.length ∧ ∀ (i : Nat) (w : Want), ws[i]? = some w → (den ws old)[i]? = some (oneT w ((mof (old.map oldT) ws).take.getD i (-1)) old) := denL_ones h ho _ _ _
/-- Each takes the one that stands at its place. -/
theorem st_own {ws : List Want} {os : List Old} (hl : os.length = ws.length) (h4 : ∀ w ∈ ws, w.kind ≠ 4) (ht : ∀ (i : Nat) (w : Want), ws[i]? = some w → takesP w (oAt os i) true = true) : ∀ i, i ≤ ws.length → (st os ws i).left = (List.range os.length).drop i ∧ ∀ k, k < i → (st os ws i).take[k]? = some (k : Int) := by
  intro i
  induction i with
  | zero => intro _; exact ⟨rfl, fun k h => by omega⟩
  | succ i ih =>
    intro hi
    obtain ⟨h1, h2⟩ := ih (by omega)
    have hw := List.getElem?_eq_getElem (show i < ws.length by omega)
    have hlt : i < (List.range os.length).length := by simp; omega
    have hd : (List.range os.length).drop i = i :: (List.range os.length).drop (i + 1) := by rw [List.drop_eq_getElem_cons hlt]; simp
    have hg : gAt os ws[i] (st os ws i).left = (i : Int) := by rw [h1, hd]; simp only [gAt]; rw [if_pos (ht i _ hw)]
    rw [st_succ os hw, mstep_g os _ _ (st_f os ws i).srt]
    simp only [hg]
    rw [if_neg (h4 _ (List.getElem_mem (by omega)))]
    refine ⟨?_, fun k hk => ?_⟩
    · rw [if_pos (by omega), h1, hd]; simp
    · have hln := st_len os ws i (by omega)
      by_cases hki : k < i
      · rw [List.getElem?_append_left (by omega)]; exact h2 k hki
      · have : k = i := by omega
        subst this
        rw [List.getElem?_append_right (by omega), hln]; simp
theorem st_zero4 {ws : List Want} (h : stL ws = 0) : ∀ w ∈ ws, stW w = 0 ∧ w.kind ≠ 4 := fun w hw => by
  have h1 := stL_mem hw
  have h2 := stW_eq w
  refine ⟨by omega, fun h4 => ?_⟩
  rw [if_neg (by omega), if_pos h4] at h2; omega
theorem kidsO_may {o : Option Tree} (h : ∀ x, o = some x → mayT x = true) : ∀ x ∈ kidsO o, mayT x = true := by
  cases o with
  | none => simp [kidsO]
  | some t =>
    intro x hx
    have := h t rfl
    rw [mayT_eq] at this
    simp only [kidsO] at hx
    split at this
    · simp only [Bool.and_eq_true, decide_eq_true_eq] at this
      have hk := this.1.2
      have := List.length_pos_of_mem hx
      omega
    · simp only [Bool.and_eq_true] at this
      rw [mayTs_all] at this
      exact List.all_eq_true.1 this.2 x hx
theorem attrsO_may {t : Tree} (h : mayT t = true) : mayAttrs t.attrs = true := by
  rw [mayT_eq] at h
  split at h
  · simp only [Bool.and_eq_true, decide_eq_true_eq] at h
    have : t.attrs = [] := List.length_eq_zero_iff.1 h.1.1.2
    rw [this]; rfl
  · simp only [Bool.and_eq_true] at h
    exact h.1.1.2
theorem elem_attrs {w : Want} {o : Option Tree} (hw : mayAttrs w.attrs = true) (ho : ∀ x, o = some x → mayT x = true) (sub : List Tree → List Tree) : mayAttrs (elemT w.tag w.key w.attrs sub o).attrs = true ∧ joinA (elemT w.tag w.key w.attrs sub o).attrs w.attrs = (elemT w.tag w.key w.attrs sub o).attrs := by
  cases o with
  | none =>
    have := hok w.attrs w.attrs hw hw
    exact ⟨this.2.1, this.2.2.2.1⟩
  | some t =>
    have := hok t.attrs w.attrs (attrsO_may (ho t rfl)) hw
    exact ⟨this.1, this.2.2.1⟩
theorem den_nil (old : List Tree) : den [] old = [] := rfl
theorem may_den : ∀ (n : Nat) (ws : List Want) (old : List Tree), szL ws < n → OkL ws → (∀ x ∈ old, mayT x = true) → ∀ t ∈ den ws old, mayT t = true := by
  intro n
  induction n with
  | zero => intro ws old h; omega
  | succ n ih =>
    intro ws old hn hok ho
    obtain ⟨o1, o2, -, -⟩ := hok.inv
    refine den_all (Q := fun x => mayT x = true) ho (by decide +kernel) (fun x h => h) (fun w hw k2 => ?_) fun w hw k1 o hQ => ?_
    · have := (o1 w hw).text k2
      rw [mayT_eq]
      simp [Tree.tag, Tree.key, Tree.attrs, Tree.kids, Tree.text, this]
    · obtain ⟨a1, a2, a3, a4⟩ := (o1 w hw).elem k1
      have hsz := sz_mem hw
      have hsz2 := szW_eq w
      have hkm := ih w.kids (kidsO o) (by omega) (o2 w hw) (kidsO_may hQ)
      have ha := (elem_attrs a3 hQ (den w.kids)).1
      have hne : w.tag ≠ ⟨#[]⟩ := fun h => by rw [h] at a1; revert a1; decide +kernel
      have e1 : (elemT w.tag w.key w.attrs (den w.kids) o).tag = w.tag := by rw [elemT_eq]; rfl
      have e2 : (elemT w.tag w.key w.attrs (den w.kids) o).key = w.key := by rw [elemT_eq]; rfl
      have e3 : (elemT w.tag w.key w.attrs (den w.kids) o).text = ⟨#[]⟩ := by rw [elemT_eq]; rfl
      have e4 : (elemT w.tag w.key w.attrs (den w.kids) o).kids = den w.kids (kidsO o) := by rw [elemT_eq]; rfl
      rw [mayT_eq, e1, if_neg hne, e2, e3, e4, ha, a1, a2, mayTs_all, List.all_eq_true.2 hkm]
      have hv : (voidN w.tag && decide (0 < (den w.kids (kidsO o)).length)) = false := by
        cases hv : voidN w.tag with
        | false => rfl
        | true => rw [a4 hv, den_nil]; rfl
      rw [hv]; rfl
theorem sh_den : ∀ (n : Nat) (ws : List Want) (old : List Tree), szL ws < n → OkL ws → stL ws = 0 → shL ws (den ws old) = true := by
  intro n
  induction n with
  | zero => intro ws old h; omega
  | succ n ih =>
    intro ws old hn hok h0
    obtain ⟨o1, o2, -, -⟩ := hok.inv
    obtain ⟨d1, d2⟩ := den_ones h0 o1 old
    refine shL_all d1.symm fun i w t hw ht => ?_
    rw [d2 i w hw] at ht
    injection ht with ht
    have hwm := List.mem_of_getElem? hw
    have hs := st_zero4 h0 w hwm
    have hsw := stW_eq w
    have hsz := sz_mem hwm
    have hsz2 := szW_eq w
    rw [← ht, shW_eq]
    unfold oneT
    by_cases k2 : w.kind = 2
    · rw [if_pos k2]
      obtain ⟨p1, p2, p3, p4⟩ := (o1 w hwm).plain (by omega)
      rw [p1, p2, p4]; simp [Tree.tag, Tree.key, Tree.text, Tree.kids, shL]
    · rw [if_neg k2]
      have p5 := (o1 w hwm).none k2
      generalize (mof (old.map oldT) ws).take.getD i (-1) = g
      rw [elemT_eq, p5]
      have := ih w.kids (kidsO (tkO old g)) (by omega) (o2 w hwm) (by omega)
      simp [Tree.tag, Tree.key, Tree.text, Tree.kids, this]
theorem den_twice : ∀ (n : Nat) (ws : List Want) (old : List Tree), szL ws < n → OkL ws → stL ws = 0 → (∀ x ∈ old, mayT x = true) → den ws (den ws old) = den ws old := by
  intro n
  induction n with
  | zero => intro ws old h; omega
  | succ n ih =>
    intro ws old hn hok h0 ho
    obtain ⟨o1, o2, -, -⟩ := hok.inv
    obtain ⟨d1, d2⟩ := den_ones h0 o1 old
    obtain ⟨t1, t2⟩ := den_ones h0 o1 (den ws old)
    have hos : ((den ws old).map oldT).length = ws.length := by simp [d1]
    have hget : ∀ (i : Nat) (w : Want), ws[i]? = some w → oAt ((den ws old).map oldT) i = oldT (oneT w ((mof (old.map oldT) ws).take.getD i (-1)) old) := fun i w hw => by
      rw [← oAt_def, List.getD_eq_getElem?_getD, List.getElem?_map, d2 i w hw]; rfl
    have htk := st_own hos (fun w hw => (st_zero4 h0 w hw).2) (fun i w hw => by
      rw [hget i w hw]
      have hwm := List.mem_of_getElem? hw
      have hs := st_zero4 h0 w hwm
      have hsw := stW_eq w
      have hk := (o1 w hwm).kinds
      unfold oneT takesP
      by_cases k2 : w.kind = 2
      · rw [if_pos k2, if_neg (by omega), if_pos k2]; simp [oldT, Tree.tag]
      · have k1 : w.kind = 1 := by
          by_cases k3 : w.kind = 3
          · rw [if_pos k3] at hsw; omega
          · omega
        rw [if_neg k2, if_pos k1, elemT_eq]; simp [oldT, Tree.tag, Tree.key]) ws.length (Nat.le_refl _)
    rw [st_all] at htk
    apply List.ext_getElem?
    intro i
    by_cases hi : i < ws.length
    · have hw := List.getElem?_eq_getElem hi
      have hwm := List.getElem_mem hi
      rw [t2 i _ hw, d2 i _ hw]
      have hti : (mof ((den ws old).map oldT) ws).take.getD i (-1) = (i : Int) := by rw [List.getD_eq_getElem?_getD, htk.2 i hi]; rfl
      rw [hti]
      congr 1
      unfold oneT
      by_cases k2 : ws[i].kind = 2
      · rw [if_pos k2, if_pos k2]
      · rw [if_neg k2, if_neg k2]
        have hto : tkO (den ws old) (i : Int) = some (elemT ws[i].tag ws[i].key ws[i].attrs (den ws[i].kids) (tkO old ((mof (old.map oldT) ws).take.getD i (-1)))) := by
          unfold tkO
          rw [if_pos (by omega)]
          congr 1
          unfold tAt
          rw [List.getD_eq_getElem?_getD, show ((i : Int).toNat) = i by omega, d2 i _ hw]
          unfold oneT
          rw [if_neg k2]; rfl
        rw [hto]
        have hs := st_zero4 h0 _ hwm
        have hsw := stW_eq ws[i]
        have hk := (o1 _ hwm).kinds
        have k1 : ws[i].kind = 1 := by
          by_cases k3 : ws[i].kind = 3
          · rw [if_pos k3] at hsw; omega
          · omega
        obtain ⟨a1, a2, a3, a4⟩ := (o1 _ hwm).elem k1
        have hom : ∀ x, tkO old ((mof (old.map oldT) ws).take.getD i (-1)) = some x → mayT x = true := fun x hx => by
          unfold tkO at hx
          split at hx
          · injection hx with hx; subst hx; exact tAt_all ho (by decide +kernel) _
          · cases hx
        have hj := (elem_attrs (w := ws[i]) a3 hom (den ws[i].kids)).2
        have hsz := sz_mem hwm
        have hsz2 := szW_eq ws[i]
        have hih := ih ws[i].kids (kidsO (tkO old ((mof (old.map oldT) ws).take.getD i (-1)))) (by omega) (o2 _ hwm) (by omega) (kidsO_may hom)
        generalize tkO old ((mof (old.map oldT) ws).take.getD i (-1)) = o at *
        have e4 : (elemT ws[i].tag ws[i].key ws[i].attrs (den ws[i].kids) o).kids = den ws[i].kids (kidsO o) := by rw [elemT_eq]; rfl
        show Tree.mk ws[i].tag ⟨#[]⟩ ws[i].key (joinA (elemT ws[i].tag ws[i].key ws[i].attrs (den ws[i].kids) o).attrs ws[i].attrs) (den ws[i].kids (elemT ws[i].tag ws[i].key ws[i].attrs (den ws[i].kids) o).kids) = _
        rw [hj, e4, hih, elemT_eq]
        rfl
    · rw [List.getElem?_eq_none (by omega), List.getElem?_eq_none (by omega)]
theorem stL_next {l : List Want} {i : Nat} {w : Want} (h : l[i]? = some w) : stL (l.take (i + 1)) = stL (l.take i) + stW w := by
  rw [take_next h, stL_append]; simp [stL]
theorem stL_le (l : List Want) (i : Nat) : stL (l.take i) ≤ stL l := by
  have := stL_append (l.take i) (l.drop i)
  rw [List.take_append_drop] at this; omega
theorem c_stays : ∀ (n : Nat) (l : List Want) (t0 : Tok), szL l < n → szL l ≤ 1048576 → Ret Try.prog 18 [.list (l.map wantD) t0] (.int .i64 (stL l)) := by
  intro n
  induction n with
  | zero => intro l t0 h; omega
  | succ n ih =>
    intro l t0 hn hsz
    refine Ret.of fun σ => ?_
    have hl := sz_len l
    have hst := stL_sz _ l (Nat.lt_succ_self _)
    refine HCalls.start mixed false _ _ (fn := Try.f18) (by kernel_rfl) rfl (by kernel_rfl) rfl (by kernel_rfl) (by kernel_rfl) ?_
    simp (maxSteps := 2000000) +contextual [-decide_eq_true_eq, -decide_eq_false_iff_not]
    refine hloop_fix (fun n e => ∃ i : Nat, i + n = l.length ∧ e 0 = .list (l.map wantD) t0 ∧ e 3 = .int .i64 (stL (l.take i)) ∧ e 4 = .int .i64 i) l.length ?_ ?_
    · refine ⟨0, by simp, ?_⟩
      simp (maxSteps := 2000000) +contextual [stL, -decide_eq_true_eq, -decide_eq_false_iff_not]
    · rintro m e ⟨i, hi, e0, e3, e4⟩
      by_cases h4 : i < l.length
      · obtain ⟨w, hw, hw2⟩ : ∃ w, l[i]? = some w ∧ l[i] = w := ⟨_, List.getElem?_eq_getElem h4, rfl⟩
        have hwm := List.mem_of_getElem? hw
        have hs1 := sz_mem hwm
        have hs2 := szW_eq w
        have hnx := stL_next hw
        have hle := stL_le l (i + 1)
        have hsw := stW_eq w
        by_cases k3 : w.kind = 3
        · rw [if_pos k3] at hsw
          have hw1 : IntKind.i64.wrap ((stL (l.take i) : Int) + 1) = (stL (l.take i) : Int) + 1 := by rw [wrap_i64] <;> omega
          simp (maxSteps := 2000000) +contextual [e0, e3, e4, h4, hw, hw2, wantD_length, wantD_eq w, decide_eq_true k3, hw1, -decide_eq_true_eq, -decide_eq_false_iff_not]
          refine ih w.kids .ro (by omega) (by omega) _ _ ?_
          simp (maxSteps := 2000000) +contextual [e0, e3, e4, -decide_eq_true_eq, -decide_eq_false_iff_not]
          exact ⟨m - 1, by omega, i + 1, by omega, by rw [wrap_i64] <;> omega, by rw [wrap_i64] <;> omega⟩
        · by_cases k4 : w.kind = 4
          · rw [if_neg k3, if_pos k4] at hsw
            have hw1 : IntKind.i64.wrap ((stL (l.take i) : Int) + 1) = (stL (l.take i) : Int) + 1 := by rw [wrap_i64] <;> omega
            simp (maxSteps := 2000000) +contextual [e0, e3, e4, h4, hw, hw2, wantD_length, wantD_eq w, decide_eq_false k3, decide_eq_true k4, hw1, -decide_eq_true_eq, -decide_eq_false_iff_not]
            refine ih w.kids .ro (by omega) (by omega) _ _ ?_
            simp (maxSteps := 2000000) +contextual [e0, e3, e4, -decide_eq_true_eq, -decide_eq_false_iff_not]
            exact ⟨m - 1, by omega, i + 1, by omega, by rw [wrap_i64] <;> omega, by rw [wrap_i64] <;> omega⟩
          · rw [if_neg k3, if_neg k4] at hsw
            simp (maxSteps := 2000000) +contextual [e0, e3, e4, h4, hw, hw2, wantD_length, wantD_eq w, decide_eq_false k3, decide_eq_false k4, -decide_eq_true_eq, -decide_eq_false_iff_not]
            refine ih w.kids .ro (by omega) (by omega) _ _ ?_
            simp (maxSteps := 2000000) +contextual [e0, e3, e4, -decide_eq_true_eq, -decide_eq_false_iff_not]
            exact ⟨m - 1, by omega, i + 1, by omega, by rw [wrap_i64] <;> omega, by rw [wrap_i64] <;> omega⟩
      · rw [List.take_of_length_le (by omega)] at e3
        simp (maxSteps := 2000000) +contextual [e0, e3, e4, h4, -decide_eq_true_eq, -decide_eq_false_iff_not]
theorem shL_drop (a : List Want) (b : List Tree) {i : Nat} (h : i < a.length) (h' : i < b.length) : shL (a.drop i) (b.drop i) = (shW a[i] b[i] && shL (a.drop (i + 1)) (b.drop (i + 1))) := by
  rw [List.drop_eq_getElem_cons h, List.drop_eq_getElem_cons h']; rfl
theorem c_shaped : ∀ (n : Nat) (l : List Want) (b : List Tree) (t0 t1 : Tok), szL l < n → szL l ≤ 1048576 → Ret Try.prog 19 [.list (l.map wantD) t0, .list (b.map treeD) t1] (.bool (shL l b)) := by
  intro n
  induction n with
  | zero => intro l b t0 t1 h; omega
  | succ n ih =>
    intro l b t0 t1 hn hsz
    refine Ret.of fun σ => ?_
    have hl := sz_len l
    refine HCalls.start mixed false _ _ (fn := Try.f19) (by kernel_rfl) rfl (by kernel_rfl) rfl (by kernel_rfl) (by kernel_rfl) ?_
    by_cases hlen : l.length = b.length
    · have hlen' : (l.length : Int) = b.length := by omega
      simp (maxSteps := 2000000) +contextual [hlen', -decide_eq_true_eq, -decide_eq_false_iff_not]
      refine hloop_fix (fun n e => ∃ i : Nat, i + n = l.length ∧ e 0 = .list (l.map wantD) t0 ∧ e 1 = .list (b.map treeD) t1 ∧ e 5 = .int .i64 i ∧ shL l b = shL (l.drop i) (b.drop i)) l.length ?_ ?_
      · refine ⟨0, by simp, ?_⟩
        simp (maxSteps := 2000000) +contextual [-decide_eq_true_eq, -decide_eq_false_iff_not]
      · rintro m e ⟨i, hi, e0, e1, e5, hq⟩
        by_cases h4 : i < l.length
        · have h4b : i < b.length := by omega
          obtain ⟨w, hw, hw2⟩ : ∃ w, l[i]? = some w ∧ l[i] = w := ⟨_, List.getElem?_eq_getElem h4, rfl⟩
          obtain ⟨x, hx, hx2⟩ : ∃ x, b[i]? = some x ∧ b[i] = x := ⟨_, List.getElem?_eq_getElem h4b, rfl⟩
          have hs1 := sz_mem (List.mem_of_getElem? hw)
          have hs2 := szW_eq w
          rw [shL_drop _ _ h4 h4b, hw2, hx2, shW_eq] at hq
          simp (maxSteps := 2000000) +contextual [e0, e1, e5, h4, -decide_eq_true_eq, -decide_eq_false_iff_not]
          refine hdraw_intro (by kernel_rfl) ?_
          by_cases q1 : w.tag = x.tag
          · by_cases q2 : w.key = x.key
            · by_cases q3 : w.text = x.text
              · simp (maxSteps := 2000000) +contextual [e0, e1, e5, h4, h4b, hw, hw2, hx, hx2, wantD_length, treeD_length, wantD_eq w, treeD_eq x, decide_eq_true q1, decide_eq_true q2, decide_eq_true q3, -decide_eq_true_eq, -decide_eq_false_iff_not]
                refine ih w.kids x.kids .ro .ro (by omega) (by omega) _ _ ?_
                rw [decide_eq_true q1, decide_eq_true q2, decide_eq_true q3] at hq
                cases hv : shL w.kids x.kids with
                | true =>
                  rw [hv] at hq
                  simp (maxSteps := 2000000) +contextual [e0, e1, e5, -decide_eq_true_eq, -decide_eq_false_iff_not]
                  exact ⟨m - 1, by omega, i + 1, by omega, by rw [wrap_i64] <;> omega, by simpa using hq⟩
                | false =>
                  rw [hv] at hq
                  have hq : shL l b = false := by simpa using hq
                  simp (maxSteps := 2000000) +contextual [e0, e1, e5, hq, -decide_eq_true_eq, -decide_eq_false_iff_not]
              · rw [decide_eq_false q3] at hq
                have hq : shL l b = false := by simpa using hq
                simp (maxSteps := 2000000) +contextual [e0, e1, e5, h4, h4b, hw, hw2, hx, hx2, wantD_length, treeD_length, wantD_eq w, treeD_eq x, decide_eq_true q1, decide_eq_true q2, decide_eq_false q3, hq, -decide_eq_true_eq, -decide_eq_false_iff_not]
            · rw [decide_eq_false q2] at hq
              have hq : shL l b = false := by simpa using hq
              simp (maxSteps := 2000000) +contextual [e0, e1, e5, h4, h4b, hw, hw2, hx, hx2, wantD_length, treeD_length, wantD_eq w, treeD_eq x, decide_eq_true q1, decide_eq_false q2, hq, -decide_eq_true_eq, -decide_eq_false_iff_not]
          · rw [decide_eq_false q1] at hq
            have hq : shL l b = false := by simpa using hq
            simp (maxSteps := 2000000) +contextual [e0, e1, e5, h4, h4b, hw, hw2, hx, hx2, wantD_length, treeD_length, wantD_eq w, treeD_eq x, decide_eq_false q1, hq, -decide_eq_true_eq, -decide_eq_false_iff_not]
        · rw [List.drop_eq_nil_of_le (by omega), List.drop_eq_nil_of_le (by omega)] at hq
          have hq : shL l b = true := hq
          simp (maxSteps := 2000000) +contextual [e0, e1, e5, h4, hq, -decide_eq_true_eq, -decide_eq_false_iff_not]
    · have hlen' : ¬ (l.length : Int) = b.length := by omega
      have : shL l b = false := by
        cases h : shL l b with
        | false => rfl
        | true => exact absurd (shL_len h) hlen
      simp (maxSteps := 2000000) +contextual [hlen', this, -decide_eq_true_eq, -decide_eq_false_iff_not]
theorem c_lawD2 (l : List Ins) (old : List Tree) (t0 t1 : Tok) : Ret Try.prog 4 [.list (l.map insD) t0, .list (old.map treeD) t1] (.bool true) := by
  refine Ret.of fun σ => ?_
  refine HCalls.start mixed false _ _ (fn := Try.f4) (by kernel_rfl) rfl (by kernel_rfl) rfl (by kernel_rfl) (by kernel_rfl) ?_
  simp (maxSteps := 2000000) +contextual [-decide_eq_true_eq, -decide_eq_false_iff_not]
  refine c_up17 _ _ ?_
  simp (maxSteps := 2000000) +contextual [-decide_eq_true_eq, -decide_eq_false_iff_not]
  refine c_wants17 l old t0 t1 _ _ ?_
  unfold wants17D
  by_cases hw : wants17 l old
  · rw [if_pos hw]
    have hsz := someP_sz l
    have hl := (fewI_fits hw.1.1.1).1
    have hok := ok_of hw.2
    obtain ⟨g1, g2⟩ := manyTs_small (l := old) (most := 60) (by omega) hw.1.1.2
    have hm := hw.1.1.2
    have hmay : ∀ x ∈ old, mayT x = true := by have := hw.1.2; rw [mayTs_all] at this; exact List.all_eq_true.1 this
    generalize (someP l).1 = ws at *
    have hol := cntTs_len old
    obtain ⟨f1, f2⟩ := fit_den _ ws old (Nat.lt_succ_self _) (by omega) hok (by omega) g2
    have hmd := may_den _ ws old (Nat.lt_succ_self _) hok hmay
    have hsh := sh_den _ ws old (Nat.lt_succ_self _) hok
    have htw := fun h => den_twice _ ws old (Nat.lt_succ_self _) hok h hmay
    simp (maxSteps := 2000000) +contextual [-decide_eq_true_eq, -decide_eq_false_iff_not]
    refine c_den _ ws old .ro t1 (Nat.lt_succ_self _) (by omega) (by omega) g2 _ _ ?_
    generalize den ws old = T at *
    have he : eqTs T T = true := (eqTs_iff _ _ _ (Nat.lt_succ_self _)).2 rfl
    simp (maxSteps := 2000000) +contextual [-decide_eq_true_eq, -decide_eq_false_iff_not]
    refine hloop_cut 0 (fun e s => s = σ ∧ e 5 = .bool true ∧ e 6 = .list (ws.map wantD) .ro ∧ e 8 = .list (T.map treeD) .ro) ?_ ?_
    · refine hloop_fix (fun n e => ∃ i : Nat, i + n = T.length ∧ e 5 = .bool true ∧ e 6 = .list (ws.map wantD) .ro ∧ e 8 = .list (T.map treeD) .ro ∧ e 9 = .int .i64 i) T.length ?_ ?_
      · refine ⟨0, by simp, ?_⟩
        simp (maxSteps := 2000000) +contextual [-decide_eq_true_eq, -decide_eq_false_iff_not]
      · rintro m e ⟨i, hi, e5, e6, e8, e9⟩
        by_cases h4 : i < T.length
        · obtain ⟨x, hx, hx2⟩ : ∃ x, T[i]? = some x ∧ T[i] = x := ⟨_, List.getElem?_eq_getElem h4, rfl⟩
          have hxm := List.mem_of_getElem? hx
          simp (maxSteps := 2000000) +contextual [e5, e6, e8, e9, h4, hx, hx2, treeD_length, -decide_eq_true_eq, -decide_eq_false_iff_not]
          refine c_rtmay _ x (Nat.lt_succ_self _) (f2 x hxm) _ _ ?_
          rw [hmd x hxm]
          simp (maxSteps := 2000000) +contextual [e5, e6, e8, e9, -decide_eq_true_eq, -decide_eq_false_iff_not]
          exact ⟨m - 1, by omega, i + 1, by omega, by rw [wrap_i64] <;> omega⟩
        · simp (maxSteps := 2000000) +contextual [e5, e6, e8, e9, h4, -decide_eq_true_eq, -decide_eq_false_iff_not]
    · rintro e s ⟨rfl, e5, e6, e8⟩
      simp (maxSteps := 2000000) +contextual [e5, e6, e8, -decide_eq_true_eq, -decide_eq_false_iff_not]
      refine c_stays _ ws .ro (Nat.lt_succ_self _) (by omega) _ _ ?_
      by_cases h0 : stL ws = 0
      · have h0' : ¬ 0 < stL ws := by omega
        have hsh := hsh h0
        have htw := htw h0
        simp (maxSteps := 2000000) +contextual [e5, e6, e8, decide_eq_false h0', -decide_eq_true_eq, -decide_eq_false_iff_not]
        refine c_shaped _ ws T .ro .ro (Nat.lt_succ_self _) (by omega) _ _ ?_
        rw [hsh]
        simp (maxSteps := 2000000) +contextual [e5, e6, e8, -decide_eq_true_eq, -decide_eq_false_iff_not]
        refine c_den _ ws T .ro .ro (Nat.lt_succ_self _) (by omega) f1 f2 _ _ ?_
        rw [htw]
        simp (maxSteps := 2000000) +contextual [e5, e6, e8, -decide_eq_true_eq, -decide_eq_false_iff_not]
        refine c_alike8 _ _ _ _ f1 f2 _ _ ?_
        rw [he]
        simp (maxSteps := 2000000) +contextual [-decide_eq_true_eq, -decide_eq_false_iff_not]
      · have h0' : 0 < stL ws := by omega
        simp (maxSteps := 2000000) +contextual [e5, e6, e8, decide_eq_true h0', -decide_eq_true_eq, -decide_eq_false_iff_not]
  · rw [if_neg hw]
    simp (maxSteps := 2000000) +contextual [-decide_eq_true_eq, -decide_eq_false_iff_not]
end Go.HL
