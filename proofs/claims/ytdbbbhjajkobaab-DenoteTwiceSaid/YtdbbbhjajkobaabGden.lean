/- What a program comes to, of trees: the program's layer 17. -/
import Derived.Test.YtdbbbhjajkobaabGtreb
import Derived.Test.YtdbbbhjajkobaabGmlaw
import Derived.Test.YtdbbbhjajkobaabGmonce
import Derived.Test.YtdbbbhjajkobaabGlawc
set_option linter.unusedVariables false
set_option linter.unusedSimpArgs false
set_option maxRecDepth 100000
set_option maxHeartbeats 8000000
namespace Go.HL
open Go.RowKit Go.Proofs

def oldT (t : Tree) : Old := ⟨t.tag, t.key⟩
def tAt (l : List Tree) (i : Nat) : Tree := l.getD i (.mk ⟨#[]⟩ ⟨#[]⟩ ⟨#[]⟩ [] [])
/-- What is wanted of an element, of what it takes, or of none. -/
def elemT (tag key : ByteArray) (attrs : List Attr) (sub : List Tree → List Tree) (o : Option Tree) : Tree := match o with
  | none => .mk tag ⟨#[]⟩ key (newA attrs) (sub [])
  | some t => .mk tag ⟨#[]⟩ key (joinA t.attrs attrs) (sub t.kids)
def tkO (old : List Tree) (t : Int) : Option Tree := if 0 ≤ t then some (tAt old t.toNat) else none
mutual
def denW : Want → Int → List Nat → List Tree → List Tree
  | .mk k tag key text attrs kids, t, kept, old =>
    if k = 2 then [.mk ⟨#[]⟩ text ⟨#[]⟩ [] []]
    else if k = 1 then [elemT tag key attrs (fun o => denL kids (mof (o.map oldT) kids).take (mof (o.map oldT) kids).kept o) (tkO old t)]
    else if k = 3 then (tkO old t).toList
    else if k = 4 then kept.map (tAt old)
    else []
def denL : List Want → List Int → List Nat → List Tree → List Tree
  | [], _, _, _ => []
  | w :: r, ts, kept, old => denW w (ts.headD (-1)) kept old ++ denL r ts.tail kept old
end
def den (ws : List Want) (old : List Tree) : List Tree := denL ws (mof (old.map oldT) ws).take (mof (old.map oldT) ws).kept old
theorem denW_eq (w : Want) (t : Int) (kept : List Nat) (old : List Tree) : denW w t kept old =
    if w.kind = 2 then [.mk ⟨#[]⟩ w.text ⟨#[]⟩ [] []]
    else if w.kind = 1 then [elemT w.tag w.key w.attrs (den w.kids) (tkO old t)]
    else if w.kind = 3 then (tkO old t).toList
    else if w.kind = 4 then kept.map (tAt old)
    else [] := by cases w; rfl
theorem denL_take (ws : List Want) (ts : List Int) (kept : List Nat) (old : List Tree) : ∀ i, i ≤ ws.length → ws.length ≤ ts.length → ∀ w, ws[i]? = some w → denL (ws.take (i + 1)) ts kept old = denL (ws.take i) ts kept old ++ denW w (ts.getD i (-1)) kept old := by
  induction ws generalizing ts with
  | nil => intro i _ _ w h; simp at h
  | cons v r ih =>
    intro i hi hl w h
    cases ts with
    | nil => simp at hl
    | cons t ts =>
      cases i with
      | zero => simp at h; subst h; simp [denL]
      | succ i =>
        have := ih ts i (by simpa using hi) (by simpa using hl) w (by simpa using h)
        simp only [List.take_succ_cons, denL, List.tail_cons, List.headD_cons, this, List.append_assoc]
        simp
theorem denW_len (w : Want) (t : Int) (kept : List Nat) (old : List Tree) : (denW w t kept old).length ≤ 1 + kept.length := by
  rw [denW_eq]
  split
  · simp
  · split
    · simp
    · split
      · unfold tkO; split <;> simp
      · split <;> simp
theorem denL_len (ws : List Want) (ts : List Int) (kept : List Nat) (old : List Tree) : (denL ws ts kept old).length ≤ ws.length * (1 + kept.length) := by
  induction ws generalizing ts with
  | nil => simp [denL]
  | cons w r ih =>
    simp only [denL, List.length_append, List.length_cons, Nat.succ_mul]
    have := ih ts.tail
    have := denW_len w (ts.headD (-1)) kept old
    omega
theorem c_newR (l : List Attr) (tok : Tok) (hl : l.length ≤ 1048576) : Ret Try.prog 118 [.list (l.map attrD) tok] (.list ((newA l).map attrD) .ro) := Ret.weak fun σ => (c_new l tok σ hl).mono fun d s ⟨⟨t, _, h1⟩, h2⟩ => ⟨by rw [h1]; exact .list _ _, h2⟩
theorem c_joinR (l m : List Attr) (t1 t2 : Tok) (hl : l.length ≤ 1048576) (hm : m.length ≤ 1048576) : Ret Try.prog 119 [.list (l.map attrD) t1, .list (m.map attrD) t2] (.list ((joinA l m).map attrD) .ro) := Ret.weak fun σ => (c_join l m t1 t2 σ hl hm).mono fun d s ⟨⟨t, _, h1⟩, h2⟩ => ⟨by rw [h1]; exact .list _ _, h2⟩
theorem c_cloneR (l : List Attr) (tok : Tok) (hl : l.length ≤ 1048576) : Ret Try.prog 88 [.list (l.map attrD) tok] (.list (l.map attrD) .ro) := Ret.weak fun σ => (HCalls.frozen attrD_length (c_clone l tok σ hl)).mono fun d s ⟨⟨t, _, h1⟩, h2⟩ => ⟨by rw [h1]; exact .list _ _, h2⟩
theorem tree_eta (t : Tree) : Tree.mk t.tag t.text t.key t.attrs t.kids = t := by cases t; rfl
theorem c_copied_of (t : Tree) (h : FitT t) (sub : ∀ k ∈ t.kids, Ret Try.prog 69 [.agg (treeD k)] (.agg (treeD k))) : Ret Try.prog 69 [.agg (treeD t)] (.agg (treeD t)) := by
  refine Ret.weak fun σ => ?_
  obtain ⟨-, ⟨f4, -⟩, f5, -⟩ := h.inv
  rw [treeD_eq]
  refine HCalls.start mixed false _ _ (fn := Try.f69) (by kernel_rfl) rfl (by kernel_rfl) rfl (by kernel_rfl) (by kernel_rfl) ?_
  simp (maxSteps := 2000000) +contextual [-decide_eq_true_eq, -decide_eq_false_iff_not]
  intro b1 hb1 b2 n2 hb2
  have n2' : ¬ b1 = b2 := fun e => n2 e.symm
  refine c_cloneR _ _ f4 _ _ ?_
  simp (maxSteps := 2000000) +contextual [n2, n2', -decide_eq_true_eq, -decide_eq_false_iff_not]
  obtain ⟨S, hS⟩ : ∃ S, S = ((σ.set b1 (.cells (treeD t))).set b2 (.cells [.str ⟨#[]⟩, .str ⟨#[]⟩, .str ⟨#[]⟩, .list [] .nil, .list [] .nil])).set b1 (.cells (treeD t)) := ⟨_, rfl⟩
  have hSl : SLe σ S := by rw [hS]; exact (((SLe.refl σ).set hb1 _).set (by simp [n2, hb2]) _).put hb1 _
  have s1 : S b1 = some (.cells [.str t.tag, .str t.text, .str t.key, .list (t.attrs.map attrD) .ro, .list (t.kids.map treeD) .ro]) := by rw [hS, Store.set_same, treeD_eq]
  have s2 : S b2 = some (.cells [.str ⟨#[]⟩, .str ⟨#[]⟩, .str ⟨#[]⟩, .list [] .nil, .list [] .nil]) := by rw [hS, Store.set_ne _ _ _ _ n2, Store.set_same]
  rw [treeD_eq] at hS
  rw [← hS]
  clear hS
  refine hloop_intro (fun n e s => ∃ (i : Nat) (pre : List Tree) (tok : Tok), i + n = t.kids.length ∧ e 1 = .ptr b1 0 ∧ e 2 = .ptr b2 0 ∧ e 3 = .list (pre.map treeD) tok ∧ e 11 = .list (t.kids.map treeD) .ro ∧ e 12 = .int .i64 t.kids.length ∧ e 13 = .int .i64 i ∧
    s b1 = some (.cells [.str t.tag, .str t.text, .str t.key, .list (t.attrs.map attrD) .ro, .list (t.kids.map treeD) .ro]) ∧ s b2 = some (.cells [.str ⟨#[]⟩, .str ⟨#[]⟩, .str ⟨#[]⟩, .list [] .nil, .list [] .nil]) ∧
    GrV 5 σ (pre.map treeD) tok s ∧ tok.blk ≠ some b1 ∧ tok.blk ≠ some b2 ∧ SLe σ s ∧ Sm pre (t.kids.take i)) t.kids.length ?_ ?_
  · refine ⟨0, [], .nil, by simp, ?_⟩
    simp (maxSteps := 2000000) +contextual [-decide_eq_true_eq, -decide_eq_false_iff_not]
    exact ⟨s1, s2, .nil _, hSl, rfl⟩
  · rintro n e s ⟨i, pre, tok, hi, e1, e2, e3, e11, e12, e13, s1, s2, gG, g1, g2, hs, hpre⟩
    have hpre : pre = t.kids.take i := hpre
    by_cases h4 : i < t.kids.length
    · obtain ⟨x, hx, hx2⟩ : ∃ x, t.kids[i]? = some x ∧ t.kids[i] = x := ⟨_, List.getElem?_eq_getElem h4, rfl⟩
      have hpl : pre.length = i := by rw [hpre]; simp; omega
      simp (maxSteps := 2000000) +contextual [e1, e2, e3, e11, e12, e13, h4, hx, hx2, treeD_length, -decide_eq_true_eq, -decide_eq_false_iff_not]
      intro b5 hb5
      refine sub x (List.mem_of_getElem? hx) _ _ ?_
      simp (maxSteps := 2000000) +contextual [e1, e2, e3, e11, e12, e13, treeD_length, -decide_eq_true_eq, -decide_eq_false_iff_not]
      refine (gG.mono ((SLe.refl s).set hb5 _)).appendT (hs.set hb5 _) [x] rfl rfl (by simp; omega) (by simp only [List.length_singleton]; omega) ?_
      intro out tok' s' hout q1 q2 q3 q4
      simp (maxSteps := 2000000) +contextual [e1, e2, e3, e11, e12, e13, -decide_eq_true_eq, -decide_eq_false_iff_not]
      refine ⟨n - 1, by omega, s', SLe.refl _, i + 1, by omega, out, tok', ⟨rfl, rfl⟩, by rw [wrap_i64] <;> omega, ?_, ?_, q4, ?_, ?_, q1, ?_⟩
      · exact q2 _ _ g1 ((SLe.refl s).set hb5 _ _ _ s1)
      · exact q2 _ _ g2 ((SLe.refl s).set hb5 _ _ _ s2)
      · exact fun h => (q3 _ h).elim g1 fun h => by have := ((SLe.refl s).set hb5 (.cells (treeD x))) _ _ s1; rw [this] at h; cases h
      · exact fun h => (q3 _ h).elim g2 fun h => by have := ((SLe.refl s).set hb5 (.cells (treeD x))) _ _ s2; rw [this] at h; cases h
      · show out = _
        rw [hout, hpre, List.take_add_one, hx]; rfl
    · have hpk : pre = t.kids := by rw [hpre]; exact List.take_of_length_le (by omega)
      rw [hpk] at e3
      simp (maxSteps := 2000000) +contextual [e1, e2, e3, e11, e12, e13, h4, s1, s2, n2, n2', -decide_eq_true_eq, -decide_eq_false_iff_not]
      refine ⟨(hs.put hb1 _).put hb2 _, ?_⟩
      have := Wk.tree (a := t.tag) (b := t.text) (c := t.key) (attrs := t.attrs) (kids := t.kids) (.refl _) (.list _ tok)
      rwa [tree_eta, treeD_eq] at this
theorem c_copied : ∀ (n : Nat) (t : Tree), cntT t < n → FitT t → Ret Try.prog 69 [.agg (treeD t)] (.agg (treeD t)) := by
  intro n
  induction n with
  | zero => intro t h; omega
  | succ n ih =>
    intro t hn h
    refine c_copied_of t h fun k hk => ih k ?_ (h.inv.2.2.2 k hk)
    have := cntT_eq t; have := cntT_mem hk; omega
def ptrT : Option Tree → D
  | none => .lit (.pointer none)
  | some t => .iptr (treeD t)
def kidsO : Option Tree → List Tree
  | none => []
  | some t => t.kids
theorem elemT_eq (tag key : ByteArray) (attrs : List Attr) (sub : List Tree → List Tree) (o : Option Tree) : elemT tag key attrs sub o = .mk tag ⟨#[]⟩ key (match o with | none => newA attrs | some t => joinA t.attrs attrs) (sub (kidsO o)) := by cases o <;> rfl
theorem c_element17 (w : Want) (o : Option Tree) (hw : w.attrs.length ≤ 1048576) (ho : ∀ t, o = some t → FitT t) (sub : ∀ (tk : Tok), Ret Try.prog 14 [.list (w.kids.map wantD) .ro, .list ((kidsO o).map treeD) tk] (.list ((den w.kids (kidsO o)).map treeD) .ro)) :
    Ret Try.prog 68 [.agg (wantD w), ptrT o] (.agg (treeD (elemT w.tag w.key w.attrs (den w.kids) o))) := by
  refine Ret.weak fun σ => ?_
  have fin : ∀ (A : List Attr) (K : List Tree) (S : Store) (b1 b2 b3 : Nat), True := fun _ _ _ _ _ _ => trivial
  rw [wantD_eq, elemT_eq]
  cases o with
  | none =>
    have sub := sub .nil
    simp only [kidsO, List.map_nil] at sub
    refine HCalls.start mixed false _ _ (fn := Try.f68) (by kernel_rfl) rfl (by kernel_rfl) rfl (by kernel_rfl) (by kernel_rfl) ?_
    simp (maxSteps := 2000000) +contextual [ptrT, -decide_eq_true_eq, -decide_eq_false_iff_not]
    intro b1 hb1 b2 n2 hb2 b3 n3 n31 hb3
    refine c_newR _ _ hw _ _ ?_
    have n2' : ¬ b1 = b2 := fun e => n2 e.symm
    have n3' : ¬ b2 = b3 := fun e => n3 e.symm
    have n31' : ¬ b1 = b3 := fun e => n31 e.symm
    simp (maxSteps := 2000000) +contextual [n2, n3, n31, n2', n3', n31', -decide_eq_true_eq, -decide_eq_false_iff_not]
    refine sub _ _ ?_
    simp (maxSteps := 2000000) +contextual [n2, n3, n31, n2', n3', n31', -decide_eq_true_eq, -decide_eq_false_iff_not]
    refine ⟨(((SLe.refl σ).put hb1 _).put hb2 _ |>.put hb3 _).put hb2 _, ?_⟩
    exact Wk.tree (.refl _) (.refl _)
  | some t =>
    have sub := sub .ro
    simp only [kidsO] at sub
    obtain ⟨-, ⟨f4, -⟩, f5, -⟩ := (ho t rfl).inv
    refine HCalls.start mixed false _ _ (fn := Try.f68) (by kernel_rfl) rfl (by kernel_rfl) rfl (by kernel_rfl) (by kernel_rfl) ?_
    simp (maxSteps := 2000000) +contextual [ptrT, -decide_eq_true_eq, -decide_eq_false_iff_not]
    intro b1 hb1 b2 n2 hb2 b3 n3 n31 hb3
    have n2' : ¬ b1 = b2 := fun e => n2 e.symm
    have n3' : ¬ b2 = b3 := fun e => n3 e.symm
    have n31' : ¬ b1 = b3 := fun e => n31 e.symm
    have w1 : ∀ (X Y : HObj), SLe (Store.one b1 (.cells [D.int IntKind.i64 w.kind, D.str w.tag, D.str w.key, D.str w.text, D.list (List.map attrD w.attrs) Tok.ro, D.list (List.map wantD w.kids) Tok.ro])) ((((σ.set b1 (.cells [D.int IntKind.i64 w.kind, D.str w.tag, D.str w.key, D.str w.text, D.list (List.map attrD w.attrs) Tok.ro, D.list (List.map wantD w.kids) Tok.ro])).set b2 X).set b3 Y)) := fun X Y => Store.one_le (by rw [Store.set_ne _ _ _ _ n31', Store.set_ne _ _ _ _ n2', Store.set_same])
    refine hdraw_part _ (w1 _ _) (by kernel_rfl) ?_
    simp (maxSteps := 2000000) +contextual [n2, n3, n31, n2', n3', n31', treeD_eq t, -decide_eq_true_eq, -decide_eq_false_iff_not]
    refine c_joinR _ _ _ _ f4 hw _ _ ?_
    simp (maxSteps := 2000000) +contextual [n2, n3, n31, n2', n3', n31', -decide_eq_true_eq, -decide_eq_false_iff_not]
    refine ⟨w1 _ _, w1 _ _, ?_⟩
    refine hdraw_part _ (w1 _ _) (by kernel_rfl) ?_
    simp (maxSteps := 2000000) +contextual [n2, n3, n31, n2', n3', n31', -decide_eq_true_eq, -decide_eq_false_iff_not]
    refine sub _ _ ?_
    simp (maxSteps := 2000000) +contextual [n2, n3, n31, n2', n3', n31', -decide_eq_true_eq, -decide_eq_false_iff_not]
    refine ⟨w1 _ _, w1 _ _, (((SLe.refl σ).put hb1 _).put hb2 _ |>.put hb3 _).put hb2 _, ?_⟩
    exact Wk.tree (.refl _) (.refl _)
theorem mof_kept (os : List Old) (ws : List Want) : (mof os ws).kept.length ≤ os.length := by have := (mof_len os ws).2.1; omega
theorem mof_rng (os : List Old) {ws : List Want} {i : Nat} {w : Want} (h : ws[i]? = some w) : (mof os ws).take[i]? = some (gAt os w (st os ws i).left) ∧ gAt os w (st os ws i).left < os.length := by
  refine ⟨st_take os h, ?_⟩
  rcases gAt_mem os w (st os ws i).left with h | ⟨j, hj, h⟩
  · rw [h]; omega
  · rw [h]; have := (st_f os ws i).srt.lt j hj; omega
theorem mof_kept_lt (os : List Old) (ws : List Want) : ∀ k ∈ (mof os ws).kept, k < os.length := by have := (st_f os ws ws.length).lt; rwa [st_all] at this
theorem tkO_fit {old : List Tree} {t : Int} (ho : ∀ x ∈ old, FitT x) (ht : t < old.length) : ∀ x, tkO old t = some x → FitT x := by
  intro x hx
  unfold tkO at hx
  split at hx
  · injection hx with hx
    have hl : t.toNat < old.length := by omega
    rw [← hx]; unfold tAt
    rw [List.getD_eq_getElem?_getD, List.getElem?_eq_getElem hl]
    exact ho _ (List.getElem_mem hl)
  · cases hx
theorem tAt_get {old : List Tree} {i : Nat} (h : i < old.length) : old[i] = tAt old i := by unfold tAt; rw [List.getD_eq_getElem?_getD, List.getElem?_eq_getElem h]; rfl
theorem treeT_of (x : Tree) : [treeD x] = List.map treeT [⟨x, .ro, .ro⟩] := by rw [treeD_eq]; rfl
theorem c_den_of (ws : List Want) (old : List Tree) (t0 t1 : Tok) (hw : szL ws ≤ 1024) (hol : old.length ≤ 1048576) (ho : ∀ x ∈ old, FitT x)
    (elem : ∀ w ∈ ws, ∀ o, (∀ x, o = some x → FitT x) → Ret Try.prog 68 [.agg (wantD w), ptrT o] (.agg (treeD (elemT w.tag w.key w.attrs (den w.kids) o)))) :
    Ret Try.prog 14 [.list (ws.map wantD) t0, .list (old.map treeD) t1] (.list ((den ws old).map treeD) .ro) := by
  refine Ret.weak fun σ => ?_
  have hwl := sz_len ws
  refine HCalls.start mixed false _ _ (fn := Try.f14) (by kernel_rfl) rfl (by kernel_rfl) rfl (by kernel_rfl) (by kernel_rfl) ?_
  simp (maxSteps := 2000000) +contextual [-decide_eq_true_eq, -decide_eq_false_iff_not]
  obtain ⟨os, hos⟩ : ∃ os, os = old.map oldT := ⟨_, rfl⟩
  have hosl : os.length = old.length := by rw [hos]; simp
  refine hloop_cut 0 (fun e s => ∃ (tok : Tok), e 0 = .list (ws.map wantD) t0 ∧ e 1 = .list (old.map treeD) t1 ∧ e 5 = .list (os.map oldD) tok ∧ SLe σ s) ?_ ?_
  · refine hloop_intro (fun n e s => ∃ (i : Nat) (pre : List Old) (tok : Tok), i + n = old.length ∧ e 0 = .list (ws.map wantD) t0 ∧ e 1 = .list (old.map treeD) t1 ∧ e 15 = .list (old.map treeD) t1 ∧ e 16 = .int .i64 old.length ∧ e 17 = .int .i64 i ∧ e 5 = .list (pre.map oldD) tok ∧ GrV 2 σ (pre.map oldD) tok s ∧ SLe σ s ∧ Sm pre ((old.take i).map oldT)) old.length ?_ ?_
    · refine ⟨0, [], .nil, by simp, ?_⟩
      simp (maxSteps := 2000000) +contextual [-decide_eq_true_eq, -decide_eq_false_iff_not]
      exact ⟨.nil _, rfl⟩
    · rintro n e s ⟨i, pre, tok, hi, e0, e1, e15, e16, e17, e5, gG, hs, hpre⟩
      have hpre : pre = _ := hpre
      by_cases h4 : i < old.length
      · obtain ⟨x, hx, hx2⟩ : ∃ x, old[i]? = some x ∧ old[i] = x := ⟨_, List.getElem?_eq_getElem h4, rfl⟩
        have hpl : pre.length = i := by rw [hpre]; simp; omega
        simp (maxSteps := 2000000) +contextual [e0, e1, e15, e16, e17, e5, h4, hx, hx2, treeD_length, oldD_length, -decide_eq_true_eq, -decide_eq_false_iff_not]
        rw [treeD_eq x]
        simp (maxSteps := 2000000) +contextual [e0, e1, e15, e16, e17, e5, -decide_eq_true_eq, -decide_eq_false_iff_not]
        intro b hb
        refine ⟨fun a _ => rfl, ?_⟩
        refine (gG.mono ((SLe.refl s).set hb _)).appendT (hs.set hb _) [oldT x] rfl rfl (by simp; omega) (by simp only [List.length_singleton]; omega) ?_
        intro out tok' s' hout q1 q2 q3 q4
        simp (maxSteps := 2000000) +contextual [e0, e1, e15, e16, e17, -decide_eq_true_eq, -decide_eq_false_iff_not]
        refine ⟨n - 1, by omega, s', SLe.refl _, i + 1, by omega, by rw [wrap_i64] <;> omega, out, tok', ⟨rfl, rfl⟩, q4, q1, ?_⟩
        show out = _
        rw [hout, hpre, ← List.map_take, take_next hx, List.map_append]; rfl
      · have hpo : pre = os := by rw [hpre, List.take_of_length_le (by omega), hos]
        rw [hpo] at e5
        simp (maxSteps := 2000000) +contextual [e0, e1, e15, e16, e17, e5, h4, -decide_eq_true_eq, -decide_eq_false_iff_not]
        exact hs
  · rintro e s ⟨tok, e0, e1, e5, hs⟩
    simp (maxSteps := 2000000) +contextual [e0, e1, e5, -decide_eq_true_eq, -decide_eq_false_iff_not]
    refine c_mof os ws tok t0 (by omega) (by omega) _ _ ?_
    have hmD : mofD os ws = .agg (mofA (mof os ws)) := rfl
    rw [hmD]
    have hden : den ws old = denL ws (mof os ws).take (mof os ws).kept old := by unfold den; rw [← hos]
    have hrng := fun (i : Nat) (w : Want) h => mof_rng os (ws := ws) (i := i) (w := w) h
    have hklt := mof_kept_lt os ws
    obtain ⟨m1, m2, -⟩ := mof_len os ws
    rw [hden]
    generalize mof os ws = M at *
    simp (maxSteps := 2000000) +contextual [mofA, m1, e0, e1, -decide_eq_true_eq, -decide_eq_false_iff_not]
    intro b8 hb8
    refine hloop_intro (fun n e s => ∃ (i : Nat) (out : List TreeT) (tok : Tok), i + n = ws.length ∧ e 1 = .list (old.map treeD) t1 ∧ e 8 = .ptr b8 0 ∧ e 9 = .list (out.map treeT) tok ∧ e 33 = .list (ws.map wantD) t0 ∧ e 34 = .int .i64 ws.length ∧ e 35 = .int .i64 i ∧
      s b8 = some (.cells (mofA M)) ∧ GrV 5 σ (out.map treeT) tok s ∧ tok.blk ≠ some b8 ∧ SLe σ s ∧ Sm (out.map TreeT.t) (denL (ws.take i) M.take M.kept old)) ws.length ?_ ?_
    · refine ⟨0, [], .nil, by simp, ?_⟩
      simp (maxSteps := 2000000) +contextual [e0, e1, mofA, -decide_eq_true_eq, -decide_eq_false_iff_not]
      exact ⟨.nil _, hs.put (hs.none hb8) _, rfl⟩
    · rintro n e s ⟨i, out, tok, hi, e1, e8, e9, e33, e34, e35, p8, gG, n8, hs, hout⟩
      have hout : out.map TreeT.t = _ := hout
      simp only [mofA] at p8
      by_cases h4 : i < ws.length
      · obtain ⟨w, hw, hw2⟩ : ∃ w, ws[i]? = some w ∧ ws[i] = w := ⟨_, List.getElem?_eq_getElem h4, rfl⟩
        obtain ⟨g1, g2⟩ := hrng i w hw
        generalize gAt os w (st os ws i).left = g at *
        have hnext := denL_take ws M.take M.kept old i (by omega) (by omega) w hw
        have hgd : M.take.getD i (-1) = g := by rw [List.getD_eq_getElem?_getD, g1]; rfl
        rw [hgd] at hnext
        have hlen := denL_len (ws.take i) M.take M.kept old
        rw [← hout, List.length_map] at hlen
        have hi1 : i < M.take.length := by omega
        have htk2 : M.take[i] = g := by rw [List.getElem?_eq_getElem hi1] at g1; simpa using g1
        simp (maxSteps := 2000000) +contextual [e1, e8, e9, e33, e34, e35, h4, hw, hw2, wantD_length, -decide_eq_true_eq, -decide_eq_false_iff_not]
        intro b11 hb11
        obtain ⟨S, hS⟩ : ∃ S, S = s.set b11 (.cells (wantD w)) := ⟨_, rfl⟩
        have hsS : SLe s S := by rw [hS]; exact (SLe.refl s).set hb11 _
        have s8 := hsS _ _ p8
        have s11 : S b11 = some (.cells [.int .i64 w.kind, .str w.tag, .str w.key, .str w.text, .list (w.attrs.map attrD) .ro, .list (w.kids.map wantD) .ro]) := by rw [hS, Store.set_same, wantD_eq]
        have gS := gG.mono hsS
        have hss := hs.trans hsS
        have n11 : tok.blk ≠ some b11 := fun h => by obtain ⟨-, c, hc⟩ := gG.blk h; rw [hb11] at hc; cases hc
        rw [← hS]
        clear hS hsS
        have hkl : M.kept.length ≤ 1048576 := by omega
        have hil : (List.take i ws).length = i := by simp; omega
        rw [hil] at hlen
        have hmul : i * (1 + M.kept.length) ≤ 1024 * (1 + M.kept.length) := Nat.mul_le_mul_right _ (by omega)
        simp (maxSteps := 2000000) +contextual [s8, e1, e8, e9, e33, e34, e35, g1, htk2, intD_length, intD_def, -hcond_bool, -decide_eq_true_eq, -decide_eq_false_iff_not]
        refine ⟨by omega, ?_⟩
        refine hcond_cut (fun e s' => s' = S ∧ e 1 = .list (old.map treeD) t1 ∧ e 8 = .ptr b8 0 ∧ e 9 = .list (out.map treeT) tok ∧ e 11 = .ptr b11 0 ∧ e 12 = ptrT (tkO old g) ∧ e 33 = .list (ws.map wantD) t0 ∧ e 34 = .int .i64 ws.length ∧ e 35 = .int .i64 i) ?_ ?_
        · by_cases hg0 : 0 ≤ g
          · have hgo : g.toNat < old.length := by omega
            have hgl : g < old.length := by omega
            simp (maxSteps := 2000000) +contextual [s8, e1, e8, e9, e33, e34, e35, decide_eq_true hg0, g1, htk2, intD_length, intD_def, hi1, treeD_length, hg0, hgl, -decide_eq_true_eq, -decide_eq_false_iff_not]
            rw [tAt_get hgo]
            simp [tkO, hg0, ptrT]
          · simp (maxSteps := 2000000) +contextual [e1, e8, e9, e33, e34, e35, decide_eq_false hg0, -decide_eq_true_eq, -decide_eq_false_iff_not]
            simp [tkO, hg0, ptrT]
        · rintro e s' ⟨rfl, e1, e8, e9, e11, e12, e33, e34, e35⟩
          have fin : ∀ (out' : List TreeT) (tok' : Tok) (s2 : Store), out'.map TreeT.t = denL (ws.take (i + 1)) M.take M.kept old → s2 b8 = some (.cells (mofA M)) → GrV 5 σ (out'.map treeT) tok' s2 → tok'.blk ≠ some b8 → SLe σ s2 →
              ∃ m, m < n ∧ ∃ x, SLe x s2 ∧ ∃ i_1 : Nat, i_1 + m = ws.length ∧ ∃ (x_1 : List TreeT) (x_2 : Tok), (List.map treeT out' = List.map treeT x_1 ∧ tok' = x_2) ∧ IntKind.i64.wrap (↑i + 1) = ↑i_1 ∧ x b8 = some (HObj.cells (mofA M)) ∧ GrV 5 σ (List.map treeT x_1) x_2 x ∧ ¬x_2.blk = some b8 ∧ SLe σ x ∧ Sm (List.map TreeT.t x_1) (denL (List.take i_1 ws) M.take M.kept old) :=
            fun out' tok' s2 f1 f2 f3 f4 f5 => ⟨n - 1, by omega, s2, SLe.refl _, i + 1, by omega, out', tok', ⟨rfl, rfl⟩, by rw [wrap_i64] <;> omega, f2, f3, f4, f5, f1⟩
          have s8' : s' b8 = some (.cells (mofA M)) := by simp only [mofA]; exact s8
          have hgl : g < old.length := by omega
          have hfo := tkO_fit ho hgl
          by_cases k2 : w.kind = 2
          · have hdw : denW w g M.kept old = [.mk ⟨#[]⟩ w.text ⟨#[]⟩ [] []] := by rw [denW_eq, if_pos k2]
            simp (maxSteps := 2000000) +contextual [s11, e1, e8, e9, e11, e12, e33, e34, e35, decide_eq_true k2, -decide_eq_true_eq, -decide_eq_false_iff_not]
            refine ⟨fun a _ => rfl, ?_⟩
            refine gS.appendT hss [(TreeT.mk (.mk ⟨#[]⟩ w.text ⟨#[]⟩ [] []) .nil .nil)] rfl rfl (by simp; omega) (by simp only [List.length_singleton]; omega) ?_
            intro out' tok' s2 hout' q1 q2 q3 q4
            simp (maxSteps := 2000000) +contextual [e1, e8, e9, e33, e34, e35, -decide_eq_true_eq, -decide_eq_false_iff_not]
            exact fin out' tok' s2 (by rw [hout', List.map_append, hout, hnext, hdw]; rfl) (q2 _ _ n8 s8') q4 (fun h => (q3 _ h).elim n8 fun h => by rw [s8'] at h; cases h) q1
          · by_cases k1 : w.kind = 1
            · have hdw : denW w g M.kept old = [elemT w.tag w.key w.attrs (den w.kids) (tkO old g)] := by rw [denW_eq, if_neg k2, if_pos k1]
              simp (maxSteps := 2000000) +contextual [s11, e1, e8, e9, e11, e12, e33, e34, e35, decide_eq_true k1, decide_eq_false k2, -decide_eq_true_eq, -decide_eq_false_iff_not]
              rw [← wantD_eq]
              refine elem w (List.mem_of_getElem? hw) (tkO old g) hfo _ _ ?_
              simp (maxSteps := 2000000) +contextual [s11, e1, e8, e9, e11, e12, e33, e34, e35, treeD_length, -decide_eq_true_eq, -decide_eq_false_iff_not]
              refine ⟨fun a _ => rfl, ?_⟩
              refine gS.appendT hss [(TreeT.mk (elemT w.tag w.key w.attrs (den w.kids) (tkO old g)) .ro .ro)] (treeT_of _) rfl (by simp; omega) (by simp only [List.length_singleton]; omega) ?_
              intro out' tok' s2 hout' q1 q2 q3 q4
              simp (maxSteps := 2000000) +contextual [e1, e8, e9, e33, e34, e35, -decide_eq_true_eq, -decide_eq_false_iff_not]
              exact fin out' tok' s2 (by rw [hout', List.map_append, hout, hnext, hdw]; rfl) (q2 _ _ n8 s8') q4 (fun h => (q3 _ h).elim n8 fun h => by rw [s8'] at h; cases h) q1
            · by_cases k3 : w.kind = 3
              · have hdw : denW w g M.kept old = (tkO old g).toList := by rw [denW_eq, if_neg k2, if_neg k1, if_pos k3]
                cases ho3 : tkO old g with
                | none =>
                  rw [ho3] at hdw e12
                  have k4 : ¬ w.kind = 4 := by omega
                  simp (maxSteps := 2000000) +contextual [s11, e1, e8, e9, e11, e12, e33, e34, e35, decide_eq_false k1, decide_eq_false k2, decide_eq_true k3, decide_eq_false k4, ptrT, -decide_eq_true_eq, -decide_eq_false_iff_not]
                  exact fin out tok s' (by rw [hout, hnext, hdw]; simp) s8' gS n8 hss
                | some x =>
                  have hfx := hfo x ho3
                  rw [ho3] at hdw e12
                  simp (maxSteps := 2000000) +contextual [s11, e1, e8, e9, e11, e12, e33, e34, e35, decide_eq_false k1, decide_eq_false k2, decide_eq_true k3, ptrT, treeD_length, -decide_eq_true_eq, -decide_eq_false_iff_not]
                  refine c_copied _ x (Nat.lt_succ_self _) hfx _ _ ?_
                  simp (maxSteps := 2000000) +contextual [s11, e1, e8, e9, e11, e12, e33, e34, e35, treeD_length, -decide_eq_true_eq, -decide_eq_false_iff_not]
                  refine ⟨fun a _ => rfl, ?_⟩
                  refine gS.appendT hss [(TreeT.mk x .ro .ro)] (treeT_of _) rfl (by simp; omega) (by simp only [List.length_singleton]; omega) ?_
                  intro out' tok' s2 hout' q1 q2 q3 q4
                  simp (maxSteps := 2000000) +contextual [e1, e8, e9, e33, e34, e35, -decide_eq_true_eq, -decide_eq_false_iff_not]
                  exact fin out' tok' s2 (by rw [hout', List.map_append, hout, hnext, hdw]; rfl) (q2 _ _ n8 s8') q4 (fun h => (q3 _ h).elim n8 fun h => by rw [s8'] at h; cases h) q1
              · by_cases k4 : w.kind = 4
                · have hdw : denW w g M.kept old = M.kept.map (tAt old) := by rw [denW_eq, if_neg k2, if_neg k1, if_neg k3, if_pos k4]
                  simp (maxSteps := 2000000) +contextual [s8, s11, e1, e8, e9, e11, e12, e33, e34, e35, decide_eq_false k1, decide_eq_false k2, decide_eq_false k3, decide_eq_true k4, -decide_eq_true_eq, -decide_eq_false_iff_not]
                  refine hloop_intro (fun n1 e s => ∃ (k : Nat) (out : List TreeT) (tok : Tok), k + n1 = M.kept.length ∧ e 1 = .list (old.map treeD) t1 ∧ e 8 = .ptr b8 0 ∧ e 9 = .list (out.map treeT) tok ∧ e 33 = .list (ws.map wantD) t0 ∧ e 34 = .int .i64 ws.length ∧ e 35 = .int .i64 i ∧
                    e 93 = .list (M.kept.map natD) .ro ∧ e 94 = .int .i64 M.kept.length ∧ e 95 = .int .i64 k ∧ s b8 = some (.cells (mofA M)) ∧ GrV 5 σ (out.map treeT) tok s ∧ tok.blk ≠ some b8 ∧ SLe σ s ∧ Sm (out.map TreeT.t) (denL (ws.take i) M.take M.kept old ++ (M.kept.take k).map (tAt old))) M.kept.length ?_ ?_
                  · refine ⟨0, out, tok, by simp, ?_⟩
                    simp (maxSteps := 2000000) +contextual [e1, e8, e9, e33, e34, e35, -decide_eq_true_eq, -decide_eq_false_iff_not]
                    exact ⟨s8', gS, n8, hss, by show _ = _; simp [hout]⟩
                  · clear fin hlen hout gG gS n8 hss e1 e8 e9 e33 e34 e35 s8 s8' hs n11
                    rintro n1 e s ⟨k, out, tok, hk, e1, e8, e9, e33, e34, e35, e93, e94, e95, s8', gS, n8, hss, hout⟩
                    have hout : out.map TreeT.t = _ := hout
                    by_cases hk4 : k < M.kept.length
                    · obtain ⟨x, hx, hx2⟩ : ∃ x, M.kept[k]? = some x ∧ M.kept[k] = x := ⟨_, List.getElem?_eq_getElem hk4, rfl⟩
                      have hxl : x < old.length := by have := hklt x (List.mem_of_getElem? hx); omega
                      have hlen : out.length ≤ i * (1 + M.kept.length) + k := by
                        have h1 : (out.map TreeT.t).length = out.length := by simp
                        have h2 := denL_len (ws.take i) M.take M.kept old
                        rw [hil] at h2
                        rw [← h1, hout, List.length_append]
                        simp; omega
                      have hfx : FitT (tAt old x) := by rw [← tAt_get hxl]; exact ho _ (List.getElem_mem hxl)
                      simp (maxSteps := 2000000) +contextual [e1, e8, e9, e33, e34, e35, e93, e94, e95, hk4, hx, hx2, natD_length, natD_def, -decide_eq_true_eq, -decide_eq_false_iff_not]
                      have hxo : old[x]? = some (tAt old x) := by rw [List.getElem?_eq_getElem hxl, tAt_get hxl]
                      have hnk : M.kept.take (k + 1) = M.kept.take k ++ [x] := take_next hx
                      simp (maxSteps := 2000000) +contextual [e1, e8, e9, e33, e34, e35, e93, e94, e95, hxo, hxl, treeD_length, tAt_get hxl, -decide_eq_true_eq, -decide_eq_false_iff_not]
                      refine c_copied _ (tAt old x) (Nat.lt_succ_self _) hfx _ _ ?_
                      simp (maxSteps := 2000000) +contextual [e1, e8, e9, e33, e34, e35, e93, e94, e95, treeD_length, -decide_eq_true_eq, -decide_eq_false_iff_not]
                      refine ⟨fun a _ => rfl, ?_⟩
                      refine gS.appendT hss [TreeT.mk (tAt old x) .ro .ro] (treeT_of _) rfl (by simp; omega) (by simp only [List.length_singleton]; omega) ?_
                      intro out' tok' s2 hout' q1 q2 q3 q4
                      simp (maxSteps := 2000000) +contextual [e1, e8, e9, e33, e34, e35, e93, e94, e95, -decide_eq_true_eq, -decide_eq_false_iff_not]
                      refine ⟨n1 - 1, by omega, s2, SLe.refl _, k + 1, by omega, out', tok', ⟨rfl, rfl⟩, by rw [wrap_i64] <;> omega, q2 _ _ n8 s8', q4, (fun h => (q3 _ h).elim n8 fun h => by rw [s8'] at h; cases h), q1, ?_⟩
                      show _ = _
                      rw [hout', List.map_append, hout, ← List.map_take, hnk, List.map_append, List.append_assoc]; rfl
                    · have hkk : M.kept.take k = M.kept := List.take_of_length_le (by omega)
                      rw [hkk] at hout
                      simp (maxSteps := 2000000) +contextual [e1, e8, e9, e33, e34, e35, e93, e94, e95, hk4, -decide_eq_true_eq, -decide_eq_false_iff_not]
                      exact ⟨n - 1, by omega, s, SLe.refl _, i + 1, by omega, out, tok, ⟨rfl, rfl⟩, by rw [wrap_i64] <;> omega, s8', gS, n8, hss, by show _ = _; rw [hout, hnext, hdw]⟩
                · have hdw : denW w g M.kept old = [] := by rw [denW_eq, if_neg k2, if_neg k1, if_neg k3, if_neg k4]
                  simp (maxSteps := 2000000) +contextual [s11, e1, e8, e9, e11, e12, e33, e34, e35, decide_eq_false k1, decide_eq_false k2, decide_eq_false k3, decide_eq_false k4, -decide_eq_true_eq, -decide_eq_false_iff_not]
                  exact fin out tok s' (by rw [hout, hnext, hdw]; simp) s8' gS n8 hss
      · have hi2 : ws.take i = ws := List.take_of_length_le (by omega)
        rw [hi2] at hout
        simp (maxSteps := 2000000) +contextual [e1, e8, e9, e33, e34, e35, h4, -decide_eq_true_eq, -decide_eq_false_iff_not]
        refine ⟨hs, ?_⟩
        have := treeT_wk out tok
        rwa [hout] at this
theorem kids_fit {o : Option Tree} (h : ∀ x, o = some x → FitT x) : (kidsO o).length ≤ 1048576 ∧ ∀ x ∈ kidsO o, FitT x := by
  cases o with
  | none => exact ⟨by simp [kidsO], by simp [kidsO]⟩
  | some t => exact ⟨(h t rfl).inv.2.2.1, (h t rfl).inv.2.2.2⟩
theorem c_den : ∀ (n : Nat) (ws : List Want) (old : List Tree) (t0 t1 : Tok), szL ws < n → szL ws ≤ 1024 → old.length ≤ 1048576 → (∀ x ∈ old, FitT x) →
    Ret Try.prog 14 [.list (ws.map wantD) t0, .list (old.map treeD) t1] (.list ((den ws old).map treeD) .ro) := by
  intro n
  induction n with
  | zero => intro ws old t0 t1 h; omega
  | succ n ih =>
    intro ws old t0 t1 hn hw hol ho
    refine c_den_of ws old t0 t1 hw hol ho fun w hwm o hfo => ?_
    have h1 := sz_mem hwm
    have h2 := szW_eq w
    obtain ⟨k1, k2⟩ := kids_fit hfo
    exact c_element17 w o (by omega) hfo fun tk => ih w.kids (kidsO o) .ro tk (by omega) (by omega) k1 k2
end Go.HL
