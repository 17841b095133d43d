import Derived.Test.YtfoblkeefpaceaaX72
import Derived.Test.YtfoblkeefpaceaaX74

section PartQ2
/- Plain facts: trees without offsets; bound variables renamed; trees of numbers. -/
set_option linter.unusedSimpArgs false
set_option linter.unusedVariables false
namespace Go.Proofs.Ytfoblkeefpaceaa
open Go Go.Ab

mutual
/-- A tree without offsets. -/
def stripM : Nd → Nd
  | .mk k s o n l i g ks p => .mk k s o n l i g (stripL ks) 0
def stripL : List Nd → List Nd
  | [] => []
  | e :: r => stripM e :: stripL r
end
theorem stripL_map : ∀ l : List Nd, stripL l = l.map stripM
  | [] => by simp [stripL]
  | e :: r => by simp [stripL, stripL_map r]
theorem strip_none : stripM Nd.none = Nd.none := by simp [Nd.none, stripM, stripL]
theorem strip_kind (e : Nd) : (stripM e).kind = e.kind := by cases e; simp [stripM, Nd.kind]
theorem strip_name (e : Nd) : (stripM e).name = e.name := by cases e; simp [stripM, Nd.name]
theorem strip_n (e : Nd) : (stripM e).n = e.n := by cases e; simp [stripM, Nd.n]
theorem strip_pos (e : Nd) : (stripM e).pos = 0 := by cases e; simp [stripM, Nd.pos]
theorem strip_kids (e : Nd) : (stripM e).kids = e.kids.map stripM := by cases e; simp [stripM, Nd.kids, stripL_map]
theorem strip_kid (e : Nd) (i : Nat) : (stripM e).kid i = stripM (e.kid i) := by
  unfold Nd.kid; rw [strip_kids]
  conv => lhs; rw [← strip_none]
  rw [getD_map_none]
theorem own_strip (dn : Str → Mn) : ∀ e, ownM dn (stripM e) = ownM dn e := by
  refine Nd.ind (by rw [strip_none]) fun e hk _ => ?_
  rw [own_eq, own_eq dn e]; simp only [strip_kind, strip_name, strip_kid, hk]
theorem least_strip (dn : Str → Mn) : ∀ e, leastM dn (stripM e) = leastM dn e := by
  refine Nd.ind (by rw [strip_none]) fun e hk _ => ?_
  rw [least_eq, least_eq dn e]; simp only [strip_kind, strip_name, strip_n, strip_kid, hk]
theorem width_strip (dn : Str → Mn) (e : Nd) (w : Int) : widthM dn (stripM e) w = widthM dn e w := by
  simp only [widthM, own_strip, least_strip]
def zeroD (d : Dg) : Dg := ⟨d.err, 0⟩
theorem rep_zero (b : Bool) (x y : Int) : (rep b x y).map zeroD = rep b x 0 := by cases b <;> rfl
theorem refOwn_zero (m : Mn) (b : Bool) (w p : Int) : (refOwn m b w p).map zeroD = refOwn m b w 0 := by
  cases m
  · rfl
  · simp only [refOwn]; split
    · rfl
    · exact rep_zero ..
  · simp only [refOwn]; split
    · rfl
    · exact rep_zero ..
theorem expr_strip (C : Cx) : ∀ (e : Nd) (B : Bnd) (w : Int), exprM C (stripM e) B w = (exprM C e B w).map zeroD := by
  refine Nd.ind (fun B w => by rw [strip_none, expr_none]; rfl) fun e hk _ B w => ?_
  have ho : ∀ dn t, oldBad C.old dn (stripM t) = oldBad C.old dn t := fun dn t => by simp only [oldBad, strip_kind, strip_name]
  have hu : ∀ dn m i, outM dn m (stripM i) = outM dn m i := fun dn m i => by
    cases m <;> simp only [outM, strip_kind, strip_name, strip_n]
  have hin : ∀ dn a b, innerM dn (stripM a) (stripM b) = innerM dn a b := fun dn a b => by simp only [innerM, own_strip, least_strip]
  have hem : ∀ l : List Nd, (l.map stripM).isEmpty = l.isEmpty := fun l => by cases l <;> rfl
  rw [expr_eq, expr_eq C e]
  simp only [strip_kind, strip_name, strip_n, strip_pos, strip_kid, strip_kids, hem, refM, binM, indexM, ho, hu, hin, hk, width_strip]
  have z1 : ∀ (c : Prop) [Decidable c] (a b : List Dg), (if c then a else b).map zeroD = if c then a.map zeroD else b.map zeroD := fun c _ a b => by split <;> rfl
  simp only [z1, List.map_append, rep_zero, refOwn_zero, List.map_cons, List.map_nil, zeroD]

mutual
def occursM (s : Str) : Nd → Bool
  | .mk _ nm _ _ _ _ _ ks _ => nm == s || occursL s ks
def occursL (s : Str) : List Nd → Bool
  | [] => false
  | e :: r => occursM s e || occursL s r
end
theorem occursL_any (s : Str) : ∀ l : List Nd, occursL s l = l.any (occursM s)
  | [] => by simp [occursL]
  | e :: r => by simp [occursL, occursL_any s r]
theorem occurs_eq (s : Str) (e : Nd) : occursM s e = (e.name == s || e.kids.any (occursM s)) := by
  cases e; simp [occursM, occursL_any, Nd.name, Nd.kids]
mutual
/-- A free name, renamed in references. -/
def renM (f t : Str) : Nd → Nd
  | .mk k s o n l i g ks p => .mk k (if k = 2 ∧ s = f then t else s) o n l i g (if (k = 7 ∨ k = 8) ∧ s = f then ks.take 1 ++ (renL f t ks).drop 1 else renL f t ks) p
def renL (f t : Str) : List Nd → List Nd
  | [] => []
  | e :: r => renM f t e :: renL f t r
end
section
variable (f t : Str)
theorem renL_map : ∀ l : List Nd, renL f t l = l.map (renM f t)
  | [] => by simp [renL]
  | e :: r => by simp [renL, renL_map r]
theorem ren_none : renM f t Nd.none = Nd.none := by simp [Nd.none, renM, renL]
theorem ren_kind (e : Nd) : (renM f t e).kind = e.kind := by cases e; simp [renM, Nd.kind]
theorem ren_name (e : Nd) : (renM f t e).name = if e.kind = 2 ∧ e.name = f then t else e.name := by cases e; simp only [renM, Nd.name, Nd.kind]; rfl
theorem ren_n (e : Nd) : (renM f t e).n = e.n := by cases e; simp [renM, Nd.n]
theorem ren_pos (e : Nd) : (renM f t e).pos = e.pos := by cases e; simp [renM, Nd.pos]
/-- The kids of a renamed tree. -/
def renKids (e : Nd) : List Nd := if (e.kind = 7 ∨ e.kind = 8) ∧ e.name = f then e.kids.take 1 ++ (e.kids.map (renM f t)).drop 1 else e.kids.map (renM f t)
theorem ren_kids (e : Nd) : (renM f t e).kids = renKids f t e := by
  cases e with
  | mk k s o n l i g ks p => simp only [renM, renKids, Nd.kids, Nd.kind, Nd.name, renL_map]; rfl
theorem ren_empty (e : Nd) : (renM f t e).kids.isEmpty = e.kids.isEmpty := by
  rw [ren_kids]; unfold renKids; cases e.kids <;> split <;> rfl
theorem ren_kid0 (e : Nd) : (renM f t e).kid 0 = if (e.kind = 7 ∨ e.kind = 8) ∧ e.name = f then e.kid 0 else renM f t (e.kid 0) := by
  unfold Nd.kid; rw [ren_kids]; unfold renKids
  cases e.kids with
  | nil => simp [ren_none]
  | cons a r => split <;> simp
theorem ren_kidS (e : Nd) (i : Nat) : (renM f t e).kid (i + 1) = renM f t (e.kid (i + 1)) := by
  unfold Nd.kid; rw [ren_kids]; unfold renKids
  cases e.kids with
  | nil => simp [ren_none]
  | cons a r =>
    have : (r.map (renM f t)).getD i Nd.none = renM f t (r.getD i Nd.none) := by
      conv => lhs; rw [← ren_none f t]
      rw [getD_map_none]
    split
    · simp only [List.take_succ_cons, List.take_zero, List.map_cons, List.drop_succ_cons, List.drop_zero, List.cons_append, List.nil_append, List.getD_cons_succ]; exact this
    · simp only [List.map_cons, List.getD_cons_succ]; exact this
end
theorem den_app (L : Str → Option (Int × Vr)) (B : Bnd) (x : Str × Int) (s : Str) : den L (B ++ [x]) s = if x.1 = s then .bound x.2 else den L B s := by
  unfold den
  rw [List.reverse_append]
  simp only [List.reverse_cons, List.reverse_nil, List.nil_append, List.singleton_append, List.find?_cons]
  by_cases h : x.1 = s
  · simp [h]
  · have : (x.1 == s) = false := by simpa using h
    simp [this, h]
theorem not_occurs_kid {s : Str} {e : Nd} (h : occursM s e = false) (i : Nat) : occursM s (e.kid i) = false ∨ e.kid i = Nd.none := by
  rw [occurs_eq] at h
  simp only [Bool.or_eq_false_iff, List.any_eq_false] at h
  unfold Nd.kid
  rcases Nat.lt_or_ge i e.kids.length with hi | hi
  · left; simpa using h.2 _ (getD_mem Nd.none hi)
  · right; rw [List.getD_eq_getElem?_getD, List.getElem?_eq_none hi]; rfl
theorem occurs_name {s : Str} {e : Nd} (h : occursM s e = false) : e.name ≠ s := by
  rw [occurs_eq] at h
  simp only [Bool.or_eq_false_iff] at h
  simpa using h.1
/-- Trees, the kids of which that are missing count as without names. -/
def Lacks (s : Str) (e : Nd) : Prop := occursM s e = false ∨ e = Nd.none
theorem Lacks.kid {s : Str} {e : Nd} (h : Lacks s e) (i : Nat) : Lacks s (e.kid i) := by
  rcases h with h | rfl
  · exact not_occurs_kid h i
  · right; simp [Nd.kid, Nd.none, Nd.kids]
theorem Lacks.name {s : Str} {e : Nd} (h : Lacks s e) (hs : s ≠ []) : e.name ≠ s := by
  rcases h with h | rfl
  · exact occurs_name h
  · simpa [Nd.none, Nd.name] using fun h => hs h
section
variable (L : Str → Option (Int × Vr)) (old : Bool) {fr : Str} (hfr : fr ≠ [])
include hfr
theorem own_same {d1 d2 : Str → Mn} (h : ∀ s, s ≠ fr → d1 s = d2 s) : ∀ e, Lacks fr e → ownM d1 e = ownM d2 e := by
  refine Nd.ind (fun _ => by rw [own_none, own_none]) fun e hk _ hl => ?_
  rw [own_eq, own_eq d2 e]; simp only [hk _ (hl.kid _), h _ (hl.name hfr)]
theorem least_same {d1 d2 : Str → Mn} (h : ∀ s, s ≠ fr → d1 s = d2 s) : ∀ e, Lacks fr e → leastM d1 e = leastM d2 e := by
  refine Nd.ind (fun _ => by rw [least_none, least_none]) fun e hk _ hl => ?_
  rw [least_eq, least_eq d2 e]; simp only [hk _ (hl.kid _), h _ (hl.name hfr)]
theorem expr_same : ∀ (e : Nd) (B1 B2 : Bnd) (w : Int), Lacks fr e → (∀ s, s ≠ fr → den L B1 s = den L B2 s) → exprM ⟨L, old⟩ e B1 w = exprM ⟨L, old⟩ e B2 w := by
  refine Nd.ind (fun B1 B2 w _ _ => by rw [expr_none, expr_none]) fun e hk _ B1 B2 w hl h => ?_
  have ko := fun i => own_same hfr h _ (hl.kid i)
  have kl := fun i => least_same hfr h _ (hl.kid i)
  have kn := h _ (hl.name hfr)
  have kk := fun i => h _ ((hl.kid i).name hfr)
  have hx := fun i w => hk i B1 B2 w (hl.kid i) h
  have hq := hk 0 (B1 ++ [(e.name, e.n)]) (B2 ++ [(e.name, e.n)]) 1 (hl.kid 0) fun s hs => by rw [den_app, den_app, h s hs]
  have hout : outM (den L B1) (den L B2 e.name) (e.kid 0) = outM (den L B2) (den L B2 e.name) (e.kid 0) := by
    cases den L B2 e.name <;> simp only [outM, kk]
  have hold : oldBad old (den L B1) (e.kid 0) = oldBad old (den L B2) (e.kid 0) := by simp only [oldBad, kk]
  rw [expr_eq, expr_eq _ e B2]
  simp only [refM, binM, indexM, innerM, widthM, ko, kl, kn, hx, hq, hout, hold]
variable {nm : Str}
theorem own_ren {d1 d2 : Str → Mn} (h : ∀ s, s ≠ fr → d2 (if s = nm then fr else s) = d1 s) : ∀ e, Lacks fr e → ownM d2 (renM nm fr e) = ownM d1 e := by
  refine Nd.ind (fun _ => by rw [ren_none, own_none, own_none]) fun e hk _ hl => ?_
  have hn := h _ (hl.name hfr)
  rw [own_eq, own_eq d1 e]
  simp only [ren_kind, ren_kidS]
  by_cases h2 : e.kind = 2
  · have : (renM nm fr e).name = if e.name = nm then fr else e.name := by rw [ren_name]; simp [h2]
    simp only [h2, if_true, this, hn]
  · have hnn : (renM nm fr e).name = e.name := by rw [ren_name]; simp [h2]
    by_cases hq : e.kind = 7 ∨ e.kind = 8
    · have h3 : ¬ (e.kind = 3 ∨ e.kind = 4) := by omega
      have h5 : ¬ e.kind = 5 := by omega
      have h6 : ¬ e.kind = 6 := by omega
      simp only [h2, h3, h5, h6, hq, if_true, if_false]
    · have h0 : (renM nm fr e).kid 0 = renM nm fr (e.kid 0) := by rw [ren_kid0]; simp [hq]
      have h1 := ren_kidS nm fr e 0
      have h1' := ren_kidS nm fr e 1
      simp only [Nat.zero_add, Nat.reduceAdd] at h1 h1'
      simp only [h2, hq, if_false, hnn, h0, h1, h1', hk _ (hl.kid _)]
theorem least_ren {d1 d2 : Str → Mn} (h : ∀ s, s ≠ fr → d2 (if s = nm then fr else s) = d1 s) : ∀ e, Lacks fr e → leastM d2 (renM nm fr e) = leastM d1 e := by
  refine Nd.ind (fun _ => by rw [ren_none, least_none, least_none]) fun e hk _ hl => ?_
  have hn := h _ (hl.name hfr)
  rw [least_eq, least_eq d1 e]
  simp only [ren_kind, ren_n]
  by_cases h2 : e.kind = 2
  · have : (renM nm fr e).name = if e.name = nm then fr else e.name := by rw [ren_name]; simp [h2]
    simp only [h2, if_true, this, hn]
  · have hnn : (renM nm fr e).name = e.name := by rw [ren_name]; simp [h2]
    by_cases hq : e.kind = 7 ∨ e.kind = 8
    · have h3 : ¬ (e.kind = 3 ∨ e.kind = 4) := by omega
      have h5 : ¬ e.kind = 5 := by omega
      have h6 : ¬ e.kind = 6 := by omega
      simp only [h2, h3, h5, h6, if_false]
    · have h0 : (renM nm fr e).kid 0 = renM nm fr (e.kid 0) := by rw [ren_kid0]; simp [hq]
      have h1 := ren_kidS nm fr e 0
      have h1' := ren_kidS nm fr e 1
      simp only [Nat.zero_add, Nat.reduceAdd] at h1 h1'
      simp only [h2, if_false, hnn, h0, h1, h1', hk _ (hl.kid _)]
theorem expr_ren (hnf : nm ≠ fr) : ∀ (e : Nd) (B1 B2 : Bnd) (w : Int), Lacks fr e → (∀ s, s ≠ fr → den L B2 (if s = nm then fr else s) = den L B1 s) → exprM ⟨L, old⟩ (renM nm fr e) B2 w = exprM ⟨L, old⟩ e B1 w := by
  refine Nd.ind (fun B1 B2 w _ _ => by rw [ren_none, expr_none, expr_none]) fun e hk _ B1 B2 w hl h => ?_
  by_cases hq : e.kind = 7 ∨ e.kind = 8
  · have h1 : ¬ e.kind = 1 := by omega
    have h2 : ¬ e.kind = 2 := by omega
    have h3 : ¬ e.kind = 3 := by omega
    have h4 : ¬ e.kind = 4 := by omega
    have h5 : ¬ e.kind = 5 := by omega
    have h6 : ¬ e.kind = 6 := by omega
    have hnn : (renM nm fr e).name = e.name := by rw [ren_name]; simp [h2]
    rw [expr_eq, expr_eq _ e B1]
    simp only [ren_kind, ren_n, ren_pos, hnn, h1, h2, h3, h4, h5, h6, hq, if_true, if_false]
    congr 1
    rw [ren_kid0]
    have hne := hl.name hfr
    by_cases he : e.name = nm
    · rw [if_pos ⟨hq, he⟩]
      refine expr_same L old hfr _ _ _ _ (hl.kid 0) fun s hs => ?_
      rw [den_app, den_app]
      by_cases hs2 : e.name = s
      · simp [hs2]
      · have := h s hs
        rw [if_neg (by rintro rfl; exact hs2 he)] at this
        simp [hs2, this]
    · rw [if_neg (by rintro ⟨_, h⟩; exact he h)]
      refine hk 0 _ _ _ (hl.kid 0) fun s hs => ?_
      rw [den_app, den_app]
      by_cases hs2 : e.name = s
      · have hsn : s ≠ nm := by rintro rfl; exact he hs2
        simp [hsn, hs2]
      · have := h s hs
        by_cases hsn : s = nm
        · simp only [hsn, if_true] at this ⊢
          have : ¬ e.name = fr := hne
          rw [if_neg this, if_neg (by rw [← hsn]; exact hs2)]
          assumption
        · simp only [hsn, if_false] at this ⊢
          rw [if_neg hs2, if_neg hs2]; exact this
  · have h0 : (renM nm fr e).kid 0 = renM nm fr (e.kid 0) := by rw [ren_kid0]; simp [hq]
    have h1 : (renM nm fr e).kid 1 = renM nm fr (e.kid 1) := ren_kidS nm fr e 0
    have h2 : (renM nm fr e).kid 2 = renM nm fr (e.kid 2) := ren_kidS nm fr e 1
    have ko := fun i => own_ren hfr h _ (hl.kid i)
    have kl := fun i => least_ren hfr h _ (hl.kid i)
    have kn := h _ (hl.name hfr)
    have kk := fun i => h _ ((hl.kid i).name hfr)
    have hx := fun i w => hk i B1 B2 w (hl.kid i) h
    have hold : oldBad old (den L B2) (renM nm fr (e.kid 0)) = oldBad old (den L B1) (e.kid 0) := by
      simp only [oldBad, ren_kind]
      by_cases hc : (e.kid 0).kind = 2
      · have : (renM nm fr (e.kid 0)).name = if (e.kid 0).name = nm then fr else (e.kid 0).name := by rw [ren_name]; simp [hc]
        rw [this, kk 0]
      · have : ((e.kid 0).kind != 2) = true := by simpa using hc
        simp [this]
    have hout : outM (den L B2) (den L B1 e.name) (renM nm fr (e.kid 0)) = outM (den L B1) (den L B1 e.name) (e.kid 0) := by
      cases den L B1 e.name
      · rfl
      · rfl
      · simp only [outM, ren_kind, ren_n]
        by_cases hc : (e.kid 0).kind = 2
        · have : (renM nm fr (e.kid 0)).name = if (e.kid 0).name = nm then fr else (e.kid 0).name := by rw [ren_name]; simp [hc]
          rw [this, kk 0]
        · simp only [hc, if_false]
    rw [expr_eq, expr_eq _ e B1]
    by_cases hc : e.kind = 2
    · have : (renM nm fr e).name = if e.name = nm then fr else e.name := by rw [ren_name]; simp [hc]
      simp only [ren_kind, hc, Int.reduceEq, if_true, if_false, refM, indexM, this, kn, ren_empty, ren_pos, h0, hout, widthM, ko, kl, hx]
    · have : (renM nm fr e).name = e.name := by rw [ren_name]; simp [hc]
      simp only [ren_kind, hc, hq, if_false, binM, innerM, this, ren_pos, ren_n, h0, h1, h2, hold, ko, kl, hx]
end
/-- The law of bound variables. -/
theorem binding_law (L : Str → Option (Int × Vr)) (old : Bool) (nm fr : Str) (hfr : fr ≠ []) (e : Nd) (hl : occursM fr e = false) (N w : Int) :
    exprM ⟨L, old⟩ (renM nm fr e) [(fr, N)] w = exprM ⟨L, old⟩ e [(nm, N)] w := by
  by_cases hnf : nm = fr
  · subst hnf
    have : ∀ e : Nd, renM nm nm e = e := by
      have key : ∀ (n : Nat) (e : Nd), SizeOf.sizeOf e ≤ n → renM nm nm e = e := by
        intro n
        induction n with
        | zero => intro e he; cases e; simp at he
        | succ n ih =>
          intro e he
          have hk : ∀ k ∈ e.kids, renM nm nm k = k := fun k hk => ih k (by have := Nd.kid_lt hk; omega)
          cases e with
          | mk k s o n l i g ks p =>
            have hm : ∀ r : List Nd, (∀ k ∈ r, renM nm nm k = k) → r.map (renM nm nm) = r := fun r h => by
              conv => rhs; rw [← List.map_id r]
              exact List.map_congr_left h
            have hr := hm ks hk
            have hs : (if k = 2 ∧ s = nm then nm else s) = s := by split <;> simp_all
            simp only [renM, renL_map, hr, hs, List.take_append_drop, ite_self]
      exact fun e => key _ e (Nat.le_refl _)
    rw [this]
  refine expr_ren L old hfr hnf e _ _ w (.inl hl) fun s hs => ?_
  have e1 := den_app L [] (fr, N)
  have e2 := den_app L [] (nm, N)
  simp only [List.nil_append] at e1 e2
  rw [e1, e2]
  by_cases h : s = nm
  · simp [h]
  · have : ¬ nm = s := fun h' => h h'.symm
    have : ¬ fr = s := fun h' => hs h'.symm
    simp [*]
end Go.Proofs.Ytfoblkeefpaceaa
end PartQ2

section PartQ3
/- Plain facts: trees of numbers; symbols that are seen alike; one declaration after the other. -/
set_option linter.unusedSimpArgs false
set_option linter.unusedVariables false
namespace Go.Proofs.Ytfoblkeefpaceaa
open Go Go.Ab

inductive Num : Nd → List Int → Prop
  | one (k p : Int) : Num (.mk 1 [] [] k 0 0 false [] p) [k]
  | bin (op : Str) (a b : Nd) {la lb : List Int} (h : opM op = 3) (ha : Num a la) (hb : Num b lb) : Num (.mk 5 op [] 0 0 0 false [a, b] 0) (la ++ lb)
theorem bits_le {n v : Int} (h0 : 0 ≤ n) (hv : 1 ≤ v) : bitsM n ≤ v ↔ n < 2 ^ v.toNat := by
  obtain ⟨k, rfl⟩ : ∃ k : Nat, v = (k : Int) + 1 := ⟨(v - 1).toNat, by omega⟩
  obtain ⟨m, rfl⟩ : ∃ m : Nat, n = m := ⟨n.toNat, by omega⟩
  have ht : ((k : Int) + 1).toNat = k + 1 := by omega
  rw [ht]
  have hc : ((m : Int) < 2 ^ (k + 1)) ↔ m < 2 ^ (k + 1) := by
    constructor
    · intro h; exact_mod_cast h
    · intro h; exact_mod_cast h
  rw [hc]
  unfold bitsM
  split
  · constructor
    · intro _
      have : 2 ≤ 2 ^ (k + 1) := by
        have := Nat.pow_le_pow_right (n := 2) (by omega) (show 1 ≤ k + 1 by omega)
        simpa using this
      omega
    · intro _; omega
  · rename_i hm
    have hne : m ≠ 0 := by omega
    rw [show ((m : Int)).toNat = m from rfl, ← Nat.log2_lt hne]
    omega
theorem fits_iff {n v : Int} (hv : 1 ≤ v) : fitsM n v = true ↔ 0 ≤ n ∧ bitsM n ≤ v := by
  unfold fitsM
  simp only [decide_eq_true_eq]
  constructor
  · rintro ⟨h0, h1⟩; exact ⟨h0, (bits_le h0 hv).2 h1⟩
  · rintro ⟨h0, h1⟩; exact ⟨h0, (bits_le h0 hv).1 h1⟩
/-- Do all numbers fit? -/
def allFit (l : List Int) (v : Int) : Bool := l.all fun n => fitsM n v
theorem num_facts {e : Nd} {l : List Int} (h : Num e l) (C : Cx) (B : Bnd) (dn : Str → Mn) :
    ownM dn e = 0 ∧ (∀ v, exprM C e B v = [] ↔ allFit l v = true) ∧ (∀ v : Int, 1 ≤ v → (allFit l v = true ↔ (∀ n ∈ l, 0 ≤ n) ∧ leastM dn e ≤ v)) := by
  induction h with
  | one k p =>
    refine ⟨by rw [own_eq]; simp [Nd.kind], fun v => ?_, fun v hv => ?_⟩
    · rw [expr_eq]; simp [Nd.kind, Nd.n, Nd.pos, rep_nil, allFit]
    · rw [least_eq]
      simp only [allFit, List.all_cons, List.all_nil, Bool.and_true, Nd.kind, Nd.n, if_true, List.mem_singleton, forall_eq]
      exact fits_iff hv
  | bin op a b ho ha hb iha ihb =>
    rename_i la lb
    obtain ⟨a1, a2, a3⟩ := iha
    obtain ⟨b1, b2, b3⟩ := ihb
    have k0 : (Nd.mk 5 op [] 0 0 0 false [a, b] 0).kid 0 = a := rfl
    have k1 : (Nd.mk 5 op [] 0 0 0 false [a, b] 0).kid 1 = b := rfl
    have af : ∀ v, allFit (la ++ lb) v = (allFit la v && allFit lb v) := fun v => by simp [allFit]
    refine ⟨?_, fun v => ?_, fun v hv => ?_⟩
    · rw [own_eq, k0, k1, a1, b1]; simp [Nd.kind, Nd.name, ho, orM]
    · rw [expr_eq]
      simp only [Nd.kind, Nd.name, Int.reduceEq, if_true, if_false, binM, ho, k0, k1, List.append_eq_nil_iff, a2, b2, af, Bool.and_eq_true]
    · rw [least_eq, k0, k1, af, Bool.and_eq_true, a3 v hv, b3 v hv]
      simp only [Nd.kind, Nd.name, Int.reduceEq, if_true, if_false, false_or, or_self, ho, List.mem_append]
      constructor
      · rintro ⟨⟨h1, h2⟩, h3, h4⟩
        exact ⟨fun n hn => hn.elim (h1 n) (h3 n), by omega⟩
      · rintro ⟨h1, h2⟩
        exact ⟨⟨fun n hn => h1 n (.inl hn), by omega⟩, fun n hn => h1 n (.inr hn), by omega⟩
/-- The least width that all numbers fit, 0 if none of 1 to 8 is one. -/
def leastFit (l : List Int) : Nat → Int
  | 0 => 0
  | k + 1 => if allFit l (9 - (k + 1 : Nat)) then 9 - (k + 1 : Nat) else leastFit l k
/-- The law of numbers. -/
theorem numbers_law {e : Nd} {l : List Int} (h : Num e l) (C : Cx) (B : Bnd) {least : Int} (hl : (least = 0 ∧ ∀ v : Int, 1 ≤ v → v ≤ 8 → allFit l v = false) ∨ (1 ≤ least ∧ least ≤ 8 ∧ allFit l least = true ∧ ∀ v : Int, 1 ≤ v → v < least → allFit l v = false)) :
    (least = 0 ↔ exprM C e B (widthM (den C.L B) e 0) ≠ []) ∧ (least ≠ 0 → widthM (den C.L B) e 0 = least) := by
  obtain ⟨h1, h2, h3⟩ := num_facts h C B (den C.L B)
  have hp := least_pos (den C.L B) e
  have hw : widthM (den C.L B) e 0 = min (leastM (den C.L B) e) 8 := by unfold widthM; simp [h1]
  have hmin : 1 ≤ min (leastM (den C.L B) e) 8 := by omega
  rw [hw, Ne, h2, h3 _ hmin]
  rcases hl with ⟨rfl, hn⟩ | ⟨g1, g2, g3, g4⟩
  · have := hn 8 (by omega) (by omega)
    have h8 := h3 8 (by omega)
    rw [this] at h8
    simp only [Bool.false_eq_true, false_iff, not_and] at h8
    refine ⟨⟨fun _ hc => h8 hc.1 (by omega), fun _ => rfl⟩, fun h => (h rfl).elim⟩
  · have e1 := (h3 least g1).1 g3
    have : leastM (den C.L B) e = least := by
      by_cases hlt : leastM (den C.L B) e < least
      · have := g4 _ hp hlt
        rw [(h3 _ hp).2 ⟨e1.1, by omega⟩] at this
        cases this
      · omega
    refine ⟨⟨fun h => by omega, fun h => (h ⟨e1.1, by omega⟩).elim⟩, fun _ => by omega⟩

/-- Symbols that names see alike. -/
structure Alike (S T : Sy) : Prop where
  vars : T.vars = S.vars
  mods : T.mods.map Mo.name = S.mods.map Mo.name
  procs : T.procs.map (fun p => (p.name, p.mod, p.params, p.locals)) = S.procs.map fun p => (p.name, p.mod, p.params, p.locals)
  locks : T.locks.map (fun l => (l.name, l.mod)) = S.locks.map fun l => (l.name, l.mod)
  threads : T.threads = S.threads
theorem findIdx_map {α β : Type} (f : α → β) (p : β → Bool) : ∀ l : List α, (l.map f).findIdx? p = l.findIdx? fun x => p (f x)
  | [] => rfl
  | a :: r => by simp only [List.map_cons, List.findIdx?_cons, findIdx_map f p r]
section
variable {S T : Sy} (h : Alike S T)
include h
theorem Alike.lenM : T.mods.length = S.mods.length := by simpa using congrArg List.length h.mods
theorem Alike.lenP : T.procs.length = S.procs.length := by simpa using congrArg List.length h.procs
theorem Alike.modM (s : Str) : modM T s = modM S s := by
  have e : ∀ U : Sy, Proofs.Ytfoblkeefpaceaa.modM U s = (U.mods.map Mo.name).findIdx? fun m => m == s := fun U => by rw [findIdx_map]; rfl
  rw [e, e, h.mods]
theorem Alike.sharedM (m : Int) (s : Str) : sharedM T m s = sharedM S m s := by unfold Proofs.Ytfoblkeefpaceaa.sharedM; rw [h.vars]
theorem Alike.procIn (m : Int) (s : Str) : procInM T m s = procInM S m s := by
  have e : ∀ U : Sy, procInM U m s = (U.procs.map fun p => (p.name, p.mod, p.params, p.locals)).findIdx? fun p => p.2.1 == m && p.1 == s := fun U => by rw [findIdx_map]; rfl
  rw [e, e, h.procs]
theorem Alike.dotted (s : Str) : dottedM T s = dottedM S s := by unfold dottedM; simp only [h.modM]
theorem Alike.at_ {i : Nat} : T.procs[i]?.map (fun p => (p.name, p.mod, p.params, p.locals)) = S.procs[i]?.map (fun p => (p.name, p.mod, p.params, p.locals)) := by
  have := congrArg (fun l => l[i]?) h.procs
  simpa using this
theorem Alike.prAt (p : Int) : (prAt T p).map (fun p => (p.name, p.mod, p.params, p.locals)) = (prAt S p).map (fun p => (p.name, p.mod, p.params, p.locals)) := by
  unfold Proofs.Ytfoblkeefpaceaa.prAt; split
  · exact h.at_
  · rfl
theorem Alike.place (m p : Int) : placeM T m p = placeM S m p := by
  unfold placeM inMods
  rw [h.lenM, h.lenP]
  have := h.prAt p
  cases h1 : Proofs.Ytfoblkeefpaceaa.prAt T p <;> cases h2 : Proofs.Ytfoblkeefpaceaa.prAt S p <;> simp only [h1, h2, Option.map_none, Option.map_some, Option.some.injEq, Prod.mk.injEq, reduceCtorEq] at this ⊢
  rw [this.2.1]
theorem Alike.sharedT (m : Int) (s : Str) : sharedT T m s = sharedT S m s := by
  unfold Proofs.Ytfoblkeefpaceaa.sharedT; simp only [h.sharedM, h.dotted]
theorem Alike.look (m p : Int) (s : Str) : lookM T m p s = lookM S m p s := by
  unfold lookM
  rw [h.place]
  have := h.prAt p
  cases h1 : Proofs.Ytfoblkeefpaceaa.prAt T p <;> cases h2 : Proofs.Ytfoblkeefpaceaa.prAt S p <;> simp only [h1, h2, Option.map_none, Option.map_some, Option.some.injEq, Prod.mk.injEq, reduceCtorEq, h.sharedT] at this ⊢
  rw [this.2.2.1, this.2.2.2]
theorem Alike.decl (m p : Int) : declM T m p = declM S m p := by
  funext s
  unfold declM
  rw [h.look, h.vars]
  have := h.prAt p
  cases h1 : Proofs.Ytfoblkeefpaceaa.prAt T p <;> cases h2 : Proofs.Ytfoblkeefpaceaa.prAt S p <;> simp only [h1, h2, Option.map_none, Option.map_some, Option.some.injEq, Prod.mk.injEq, reduceCtorEq] at this ⊢
  rw [this.2.2.1, this.2.2.2]
theorem Alike.procOf (m : Int) (s : Str) : procOfM T m s = procOfM S m s := by
  unfold procOfM; simp only [h.procIn, h.dotted]
theorem Alike.cx (m p : Int) (old : Bool) : cxM T m p old = cxM S m p old := by unfold cxM; rw [h.decl]
theorem Alike.sx (m p : Int) (old : Bool) : sxM T m p old = sxM S m p old := by
  unfold sxM
  rw [h.cx, h.threads]
  have e1 : (fun s => T.locks.any fun l => l.mod == m && l.name == s) = fun s => S.locks.any fun l => l.mod == m && l.name == s := by
    funext s
    have e : ∀ U : Sy, (U.locks.any fun l => l.mod == m && l.name == s) = (U.locks.map fun l => (l.name, l.mod)).any fun l => l.2 == m && l.1 == s := fun U => by rw [List.any_map]; rfl
    rw [e, e, h.locks]
  have e2 : prmM T m = prmM S m := by
    funext s
    unfold prmM
    rw [h.procOf]
    cases procOfM S m s with
    | none => rfl
    | some i =>
      have := h.at_ (i := i)
      simp only
      cases h1 : T.procs[i]? <;> cases h2 : S.procs[i]? <;> simp only [h1, h2, Option.map_none, Option.map_some, Option.some.injEq, Prod.mk.injEq, reduceCtorEq, Option.getD_some] at this ⊢
      rw [this.2.2.1]
  rw [e1, e2]
theorem Alike.usable : usableM T = usableM S := by
  unfold usableM
  rw [h.vars]
  have hi : ∀ m, inMods T m = inMods S m := fun m => by unfold inMods; rw [h.lenM]
  have e1 : (T.locks.all fun l => inMods T l.mod) = S.locks.all fun l => inMods S l.mod := by
    have e : ∀ U : Sy, (U.locks.all fun l => inMods S l.mod) = (U.locks.map fun l => (l.name, l.mod)).all fun l => inMods S l.2 := fun U => by rw [List.all_map]; rfl
    simp only [hi]; rw [e, e, h.locks]
  have e2 : (T.procs.all fun p => inMods T p.mod && sizedM p.params && sizedM p.locals) = S.procs.all fun p => inMods S p.mod && sizedM p.params && sizedM p.locals := by
    have e : ∀ U : Sy, (U.procs.all fun p => inMods S p.mod && sizedM p.params && sizedM p.locals) = (U.procs.map fun p => (p.name, p.mod, p.params, p.locals)).all fun p => inMods S p.2.1 && sizedM p.2.2.1 && sizedM p.2.2.2 := fun U => by rw [List.all_map]; rfl
    simp only [hi]; rw [e, e, h.procs]
  rw [e1, e2]
  simp only [hi]
theorem Alike.good (m p w : Int) : goodM T m p w = goodM S m p w := by unfold goodM; rw [h.usable, h.place]
end
end Go.Proofs.Ytfoblkeefpaceaa
end PartQ3

section PartQ4
/- Plain facts: the checks of one declaration alone; of symbols without offsets. -/
set_option linter.unusedSimpArgs false
set_option linter.unusedVariables false
namespace Go.Proofs.Ytfoblkeefpaceaa
open Go Go.Ab

/-- Only one declaration's trees; -1: none. -/
def onlyM (S : Sy) (a b c : Int) : Sy :=
  ⟨S.mods.zipIdx.map (fun x => if (x.2 : Int) = a then x.1 else { x.1 with rely := Nd.none, guar := Nd.none, frame := [] }), S.vars,
   S.locks.zipIdx.map (fun x => if (x.2 : Int) = b then x.1 else { x.1 with inv := Nd.none }),
   S.procs.zipIdx.map (fun x => if (x.2 : Int) = c then x.1 else { x.1 with body := Nd.none }), S.threads⟩
theorem zip_map_same {α β : Type} (l : List α) (g : α × Nat → α) (f : α → β) (h : ∀ x i, f (g (x, i)) = f x) : (l.zipIdx.map g).map f = l.map f := by
  have key : ∀ (l : List α) (k : Nat), ((l.zipIdx k).map g).map f = l.map f := by
    intro l
    induction l with
    | nil => intro k; rfl
    | cons a r ih => intro k; simp [List.zipIdx_cons, h, ih]
  exact key l 0
theorem only_alike (S : Sy) (a b c : Int) : Alike S (onlyM S a b c) := by
  refine ⟨rfl, ?_, ?_, ?_, rfl⟩
  · exact zip_map_same _ _ _ fun x i => by simp only; split <;> rfl
  · exact zip_map_same _ _ _ fun x i => by simp only; split <;> rfl
  · exact zip_map_same _ _ _ fun x i => by simp only; split <;> rfl
theorem zip_get {α : Type} {l : List α} {x : α × Nat} (h : x ∈ l.zipIdx) : l[x.2]? = some x.1 := by
  rw [List.mem_iff_getElem?] at h
  obtain ⟨i, hi⟩ := h
  rw [List.getElem?_zipIdx] at hi
  cases hx : l[i]? with
  | none => simp [hx] at hi
  | some y => simp [hx] at hi; obtain rfl := hi; simpa using hx
theorem zipIdx_map {α β : Type} (g : α × Nat → β) : ∀ (l : List α) (k : Nat), ((l.zipIdx k).map g).zipIdx k = (l.zipIdx k).map fun x => (g x, x.2)
  | [], k => rfl
  | a :: r, k => by simp only [List.zipIdx_cons, List.map_cons, zipIdx_map g r (k + 1)]
theorem flat_one {α β : Type} [Inhabited α] (f : α → Nat → List β) : ∀ (l : List α) (k : Nat), (∀ x ∈ l.zipIdx, x.2 ≠ k → f x.1 x.2 = []) → k < l.length → (l.zipIdx.flatMap fun x => f x.1 x.2) = f (l.getD k default) k := by
  have key : ∀ (l : List α) (o k : Nat), (∀ x ∈ l.zipIdx o, x.2 ≠ o + k → f x.1 x.2 = []) → k < l.length → ((l.zipIdx o).flatMap fun x => f x.1 x.2) = f (l.getD k default) (o + k) := by
    intro l
    induction l with
    | nil => intro o k _ h; simp at h
    | cons a r ih =>
      intro o k h hk
      rw [List.zipIdx_cons, List.flatMap_cons]
      cases k with
      | zero =>
        have : ((r.zipIdx (o + 1)).flatMap fun x => f x.1 x.2) = [] := by
          rw [List.flatMap_eq_nil_iff]
          intro x hx
          refine h x (by rw [List.zipIdx_cons]; exact List.mem_cons_of_mem _ hx) ?_
          have := List.le_snd_of_mem_zipIdx hx
          omega
        simp [this]
      | succ k =>
        have h0 := h (a, o) (by rw [List.zipIdx_cons]; exact List.mem_cons_self ..) (by simp)
        simp only at h0
        rw [h0, ih (o + 1) k (fun x hx hn => h x (by rw [List.zipIdx_cons]; exact List.mem_cons_of_mem _ hx) (by omega)) (by simp at hk; omega)]
        simp only [List.nil_append, List.getD_cons_succ]
        congr 1; omega
  intro l k h hk
  have := key l 0 k (by simpa using h) hk
  simpa using this
instance : Inhabited Mo := ⟨⟨[], [], Nd.none, Nd.none, [], 0⟩⟩
instance : Inhabited Lk := ⟨⟨[], 0, Nd.none, 0⟩⟩
instance : Inhabited Pr := ⟨⟨[], 0, [], [], [], Nd.none, [], 0⟩⟩
theorem truth_none (X : Sx) : truthM X Nd.none = [] := by simp [truthM, Nd.none, Nd.kind]
/-- The declarations' reports, one by one. -/
def partsM (S : Sy) : List (List Dg) := (S.mods.zipIdx.map fun x => contractM S x.2 x.1) ++ (S.locks.map (lockM S) ++ S.procs.zipIdx.map fun x => procM S x.2 x.1)
theorem parts_whole (S : Sy) : wholeM S = (partsM S).flatten := by
  simp only [wholeM, partsM, List.flatten_append, List.flatMap_def]
theorem cut_flatten (n : Nat) : ∀ l : List (List Dg), ((l.map (List.take n)).flatten).take n = l.flatten.take n := by
  have pre : ∀ (k : Nat), k ≤ n → ∀ l : List (List Dg), ((l.map (List.take n)).flatten).take k = l.flatten.take k := by
    intro k hk l
    induction l generalizing k with
    | nil => rfl
    | cons a r ih =>
      simp only [List.map_cons, List.flatten_cons, List.take_append, List.length_take]
      rcases Nat.le_total a.length n with h | h
      · rw [List.take_of_length_le h, Nat.min_eq_right h, ih _ (by omega)]
      · rw [List.take_take, Nat.min_eq_left hk, Nat.min_eq_left h]
        have e1 : k - n = 0 := by omega
        have e2 : k - a.length = 0 := by omega
        rw [e1, e2]; simp
  exact fun l => pre n (Nat.le_refl _) l
section
variable (S : Sy)
theorem contract_only {a b c : Int} (i : Nat) (m : Mo) : contractM (onlyM S a b c) i m = contractM S i m := by
  have h := only_alike S a b c
  unfold contractM frameM; simp only [h.sx, h.look]
theorem lock_only {a b c : Int} (l : Lk) : lockM (onlyM S a b c) l = lockM S l := by
  unfold lockM; simp only [(only_alike S a b c).sx]
theorem proc_only {a b c : Int} (i : Nat) (p : Pr) : procM (onlyM S a b c) i p = procM S i p := by
  unfold procM; simp only [(only_alike S a b c).sx]
theorem only_mods (a b c : Int) : ((onlyM S a b c).mods.zipIdx.flatMap fun x => contractM (onlyM S a b c) x.2 x.1) = S.mods.zipIdx.flatMap fun x => if (x.2 : Int) = a then contractM S x.2 x.1 else [] := by
  simp only [contract_only]
  simp only [onlyM]
  rw [zipIdx_map, List.flatMap_map]
  congr 1
  funext x
  simp only
  split
  · rfl
  · simp [contractM, truth_none]
theorem only_locks (a b c : Int) : ((onlyM S a b c).locks.flatMap (lockM (onlyM S a b c))) = S.locks.zipIdx.flatMap fun x => if (x.2 : Int) = b then lockM S x.1 else [] := by
  have : lockM (onlyM S a b c) = lockM S := by funext l; exact lock_only S l
  rw [this]
  simp only [onlyM]
  rw [List.flatMap_map]
  congr 1
  funext x
  split
  · rfl
  · simp [lockM, truth_none]
theorem only_procs (a b c : Int) : ((onlyM S a b c).procs.zipIdx.flatMap fun x => procM (onlyM S a b c) x.2 x.1) = S.procs.zipIdx.flatMap fun x => if (x.2 : Int) = c then procM S x.2 x.1 else [] := by
  simp only [proc_only]
  simp only [onlyM]
  rw [zipIdx_map, List.flatMap_map]
  congr 1
  funext x
  simp only
  split
  · rfl
  · simp [procM, st_none]
theorem flat_never {α β : Type} (l : List α) (f : α → Nat → List β) : (l.zipIdx.flatMap fun x => if (x.2 : Int) = -1 then f x.1 x.2 else []) = [] := by
  rw [List.flatMap_eq_nil_iff]
  intro x _
  rw [if_neg (by omega)]
theorem flat_at {α β : Type} [Inhabited α] (l : List α) (f : α → Nat → List β) {k : Nat} (hk : k < l.length) : (l.zipIdx.flatMap fun x => if (x.2 : Int) = (k : Int) then f x.1 x.2 else []) = f (l.getD k default) k := by
  rw [flat_one (fun x i => if (i : Int) = (k : Int) then f x i else []) l k (fun x _ hn => by rw [if_neg (by omega)]) hk]
  simp
theorem check_mod (hu : usableM S = true) {k : Nat} (hk : k < S.mods.length) : checkR (onlyM S k (-1) (-1)) = (contractM S k (S.mods.getD k default)).take 20 := by
  unfold checkR
  rw [(only_alike S _ _ _).usable, hu, if_pos rfl]
  unfold wholeM
  rw [only_mods, only_locks, only_procs, flat_never S.locks (fun x _ => lockM S x), flat_never S.procs (fun x i => procM S i x), flat_at S.mods (fun x i => contractM S i x) hk]
  simp
theorem check_lock (hu : usableM S = true) {k : Nat} (hk : k < S.locks.length) : checkR (onlyM S (-1) k (-1)) = (lockM S (S.locks.getD k default)).take 20 := by
  unfold checkR
  rw [(only_alike S _ _ _).usable, hu, if_pos rfl]
  unfold wholeM
  rw [only_mods, only_locks, only_procs, flat_never S.mods (fun x i => contractM S i x), flat_never S.procs (fun x i => procM S i x), flat_at S.locks (fun x _ => lockM S x) hk]
  simp
theorem check_proc (hu : usableM S = true) {k : Nat} (hk : k < S.procs.length) : checkR (onlyM S (-1) (-1) k) = (procM S k (S.procs.getD k default)).take 20 := by
  unfold checkR
  rw [(only_alike S _ _ _).usable, hu, if_pos rfl]
  unfold wholeM
  rw [only_mods, only_locks, only_procs, flat_never S.mods (fun x i => contractM S i x), flat_never S.locks (fun x _ => lockM S x), flat_at S.procs (fun x i => procM S i x) hk]
  simp
/-- All reports of the declarations alone. -/
def aloneM : List Dg := ((List.range S.mods.length).flatMap fun k : Nat => checkR (onlyM S k (-1) (-1))) ++ ((List.range S.locks.length).flatMap fun k : Nat => checkR (onlyM S (-1) k (-1))) ++ ((List.range S.procs.length).flatMap fun k : Nat => checkR (onlyM S (-1) (-1) k))
theorem range_zip {α β : Type} [Inhabited α] (l : List α) (f : Nat → List β) (g : α → Nat → List β) (h : ∀ k, k < l.length → f k = g (l.getD k default) k) : (List.range l.length).flatMap f = (l.zipIdx.map fun x => g x.1 x.2).flatten := by
  have e : (List.range l.length).map f = l.zipIdx.map fun x => g x.1 x.2 := by
    apply List.ext_getElem
    · simp
    · intro i h1 h2
      have hi : i < l.length := by simpa using h1
      simp only [List.getElem_map, List.getElem_range, List.getElem_zipIdx, Nat.zero_add]
      rw [h i hi, List.getD_eq_getElem?_getD, List.getElem?_eq_getElem hi]; rfl
  rw [List.flatMap_def, e]
/-- The law of locality. -/
theorem locality_law (hu : usableM S = true) : checkR S = (aloneM S).take 20 := by
  unfold checkR aloneM
  rw [hu, if_pos rfl, parts_whole, ← cut_flatten]
  rw [range_zip S.mods _ (fun x k => (contractM S k x).take 20) fun k hk => check_mod S hu hk,
    range_zip S.locks _ (fun x k => (lockM S x).take 20) fun k hk => check_lock S hu hk,
    range_zip S.procs _ (fun x k => (procM S k x).take 20) fun k hk => check_proc S hu hk]
  have e : S.locks.map (fun x => (lockM S x).take 20) = S.locks.zipIdx.map (fun x => (lockM S x.1).take 20) := by
    conv => lhs; rw [← List.zipIdx_map_fst 0 S.locks]
    rw [List.map_map]; rfl
  simp only [partsM, List.map_append, List.map_map, List.flatten_append, List.append_assoc]
  rw [← e]
  rfl
end
-- Without offsets.
def stripS (S : Sy) : Sy :=
  ⟨S.mods.map (fun m => { m with rely := stripM m.rely, guar := stripM m.guar, frame := m.frame.map fun e => .mk e.kind e.name e.other e.n e.len e.init e.ghost e.kids 0 }), S.vars,
   S.locks.map (fun l => { l with inv := stripM l.inv }), S.procs.map (fun p => { p with body := stripM p.body }), S.threads⟩
theorem strip_alike (S : Sy) : Alike S (stripS S) := by
  refine ⟨rfl, ?_, ?_, ?_, rfl⟩ <;> · simp only [stripS, List.map_map]; rfl
section
variable (X : Sx)
theorem eM_strip (e : Nd) (w : Int) : eM X (stripM e) w = (eM X e w).map zeroD := expr_strip ..
theorem free_strip (e : Nd) (w : Int) : freeM X (stripM e) w = (freeM X e w).map zeroD := by
  unfold freeM; rw [width_strip, eM_strip]
theorem one_strip (t e : Nd) : oneM X (stripM t) (stripM e) = (oneM X t e).map zeroD := by
  unfold oneM
  have : ownS X (stripM t) = ownS X t := own_strip ..
  rw [strip_kind, this, strip_pos]
  split
  · rw [free_strip]; rfl
  · rw [eM_strip, free_strip, List.map_append]
theorem assigns_strip : ∀ l : List Nd, assignsM X (l.map stripM) = (assignsM X l).map zeroD
  | [] => rfl
  | [t] => by
    have := one_strip X t Nd.none
    rw [strip_none] at this
    simpa [assignsM] using this
  | t :: e :: r => by
    simp only [List.map_cons, assignsM, List.map_append, one_strip, assigns_strip r]
theorem truth_strip (e : Nd) : truthM X (stripM e) = (truthM X e).map zeroD := by
  unfold truthM; rw [strip_kind]; split
  · exact eM_strip ..
  · rfl
theorem args_strip : ∀ (ws : List Int) (l : List Nd), argsM X ws (l.map stripM) = (argsM X ws l).map zeroD
  | _, [] => by cases ‹List Int› <;> rfl
  | [], e :: r => by simp only [List.map_cons, argsM, List.map_append, free_strip, args_strip [] r]
  | w :: ws, e :: r => by simp only [List.map_cons, argsM, List.map_append, free_strip, args_strip ws r]
theorem st_strip : ∀ e, stM X (stripM e) = (stM X e).map zeroD := by
  refine Nd.ind (by rw [strip_none, st_none]; rfl) fun e hk hm => ?_
  have ho : ∀ t, ownS X (stripM t) = ownS X t := fun t => own_strip ..
  have hf : (e.kids.map stripM).flatMap (stM X) = (e.kids.flatMap (stM X)).map zeroD := by
    rw [List.flatMap_map, List.map_flatMap]
    rw [List.flatMap_def, List.flatMap_def]
    congr 1
    exact List.map_congr_left fun k hk' => hm k hk'
  have hd : ∀ j, assignsM X ((e.kids.map stripM).drop j) = (assignsM X (e.kids.drop j)).map zeroD := fun j => by rw [← List.map_drop, assigns_strip]
  have z1 : ∀ (c : Prop) [Decidable c] (a b : List Dg), (if c then a else b).map zeroD = if c then a.map zeroD else b.map zeroD := fun c _ a b => by split <;> rfl
  rw [st_eq, st_eq X e]
  have hc : callM X (stripM e) = (callM X e).map zeroD := by
    unfold callM
    rw [strip_name, strip_pos, strip_kids]
    cases X.proc e.name with
    | none => simp only [args_strip, List.map_cons, zeroD]
    | some ws => simp only [args_strip, List.map_append, rep_zero, List.length_map]
  have hcas : casM X (stripM e) = (casM X e).map zeroD := by
    unfold casM
    simp only [strip_kid, strip_kind, strip_name, strip_pos, ho, strip_kids, hd, free_strip, eM_strip, z1, List.map_append, List.map_cons, List.map_nil, zeroD]
  simp only [hc, hcas]
  simp only [strip_kind, strip_name, strip_pos, strip_kid, strip_kids, hf, hk, hd, assigns_strip, truth_strip, free_strip, eM_strip, z1, List.map_append, rep_zero, List.map_cons, List.map_nil, zeroD]
end
/-- The law of offsets. -/
theorem check_strip (S : Sy) : checkR (stripS S) = (checkR S).map zeroD := by
  have h := strip_alike S
  unfold checkR
  rw [h.usable]
  split
  · rw [List.map_take]
    congr 1
    unfold wholeM
    simp only [List.map_append]
    have e1 : ((stripS S).mods.zipIdx.flatMap fun x => contractM (stripS S) x.2 x.1) = (S.mods.zipIdx.flatMap fun x => contractM S x.2 x.1).map zeroD := by
      simp only [stripS, List.zipIdx_map, List.flatMap_map, List.map_flatMap]
      congr 1
      funext x
      obtain ⟨m, i⟩ := x
      simp only [Prod.map, contractM, id]
      rw [List.map_append, List.map_append, ← truth_strip, ← truth_strip, List.flatMap_map, List.map_flatMap]
      have hx : ∀ m p old, sxM (stripS S) m p old = sxM S m p old := h.sx
      have hl : ∀ m p s, lookM (stripS S) m p s = lookM S m p s := h.look
      unfold stripS at hx hl
      simp only [hx]
      congr 2
      congr 1
      funext e
      have he : frameM (stripS S) (↑i) (.mk e.kind e.name e.other e.n e.len e.init e.ghost e.kids 0) = (frameM S (↑i) e).map zeroD := by
        unfold frameM
        show (match lookM (stripS S) (↑i) (-1) e.name with | .at_ _ _ => rep (decide (0 < e.kids.length)) 51 0 | _ => [⟨40, 0⟩]) = _
        rw [h.look]
        cases lookM S (↑i) (-1) e.name <;> simp only [rep_zero, List.map_cons, List.map_nil, zeroD]
      unfold stripS at he
      exact he
    have e2 : (stripS S).locks.flatMap (lockM (stripS S)) = (S.locks.flatMap (lockM S)).map zeroD := by
      have hl : lockM (stripS S) = lockM S := by funext l; unfold lockM; rw [h.sx]
      rw [hl]
      simp only [stripS, List.flatMap_map, List.map_flatMap]
      congr 1
      funext l
      simp only [lockM, truth_strip]
    have e3 : ((stripS S).procs.zipIdx.flatMap fun x => procM (stripS S) x.2 x.1) = (S.procs.zipIdx.flatMap fun x => procM S x.2 x.1).map zeroD := by
      have hl : ∀ i p, procM (stripS S) i p = procM S i p := fun i p => by unfold procM; rw [h.sx]
      simp only [hl]
      simp only [stripS, List.zipIdx_map, List.flatMap_map, List.map_flatMap]
      congr 1
      funext x
      obtain ⟨m, i⟩ := x
      simp only [Prod.map, procM, st_strip, id]
    rw [e1, e2, e3]
  · rfl
theorem width_stripR (S : Sy) (m p : Int) (e : Nd) (want : Int) : widthR (stripS S) m p (stripM e) want = ((widthR S m p e want).1, (widthR S m p e want).2.map zeroD) := by
  have h := strip_alike S
  unfold widthR
  rw [h.good]
  split
  · unfold dM wM
    rw [h.decl, h.cx, width_strip, expr_strip, List.map_take]
  · rw [strip_pos]; rfl
end Go.Proofs.Ytfoblkeefpaceaa
end PartQ4

section PartL5
/- The law package: trees without offsets, names in trees, names replaced. -/
set_option linter.unusedSimpArgs false
set_option linter.unusedVariables false
set_option maxRecDepth 100000
namespace Go.Proofs.Ytfoblkeefpaceaa
open Go Go.Ab

def OccAt (s : Str) (e : Nd) : Prop := ∀ (σ : St) (G : Glob) (R : A → St → Prop), R (db (occursM s e)) σ → AC Try.prog G 27 [.d e.d, .d (.str s)] σ R
set_option maxHeartbeats 4000000 in
theorem occ_step (s : Str) (e : Nd) (hok : e.Ok) (ih : ∀ k ∈ e.kids, OccAt s k) : OccAt s e := by
  intro σ G R h
  have hre : reachBytes < 9223372036854775806 := by decide
  have hl := hok.len
  have ho := occurs_eq s e
  rw [Nd.d_eq]
  refine ac_enter mixed Try.func27 rfl Try.ntmps27 (by simp only [go_sem]) fun hbd => ?_
  simp only [List.length_cons, List.length_nil, Nat.reduceAdd, Nat.reduceSub, List.replicate_succ, List.replicate_zero, List.cons_append, List.nil_append]
  by_cases hn : (e.name == s) = true
  · rw [hn, Bool.true_or] at ho
    rw [ho] at h
    simp only [go_sem, hn, Try.results27]
    exact ret_bd hbd rfl h
  have hn' : (e.name == s) = false := by simpa using hn
  rw [hn', Bool.false_or] at ho
  simp only [go_sem, hn', Try.results27]
  refine aw_loop (fun m fr st => ∃ j : Nat, j ≤ e.kids.length ∧ m = e.kids.length - j ∧ (e.kids.take j).any (occursM s) = false ∧ fr = [.any, .d (.str s), .ref σ.length 0, .any, .any, dn j, .any, .any, .any, .any, .any, .any, .any, .any, .any, .any, .any, .any, .any, .any, .any, .any, .any, .any] ∧ st = σ ++ [ncs e]) e.kids.length _ ?_ ?_
  · exact Wk.mask [1, 2, 5] ⟨0, by omega, by omega, rfl, rfl, rfl⟩
  rintro m fr st ⟨j, hj, hm, ha, rfl, rfl⟩
  rcases Nat.lt_or_ge j e.kids.length with hlt | hge
  · have hd : decide ((j : Int) < (e.kids.length : Int)) = true := by simp; omega
    have e1 := kid_d hlt
    have w1 := wrapS j (by omega)
    have ihj := ih _ (getD_mem Nd.none hlt)
    have hkd : e.kids.getD j Nd.none = e.kid j := rfl
    rw [hkd] at ihj
    simp only [go_sem, hd, e1, w1, Nd.cs, List.length_map, Try.results27]
    rw [← Nd.d_eq (e.kid j)]
    refine ⟨⟨by omega, by omega⟩, ac' (ihj _ _ _ ?_)⟩
    simp only [go_sem, w1, Try.results27]
    refine ⟨fun c => ?_, fun c => ?_⟩
    · have : e.kids.any (occursM s) = true := List.any_eq_true.2 ⟨_, getD_mem Nd.none hlt, c⟩
      rw [ho, this] at h
      exact ret_bd hbd rfl h
    · exact Wk.mask [1, 2, 5] ⟨e.kids.length - (j + 1), by omega, j + 1, by omega, rfl, by rw [take_getD Nd.none hlt, List.any_append, ha, hkd]; simp [c], rfl, rfl⟩
  · have hd : decide ((j : Int) < (e.kids.length : Int)) = false := by simp; omega
    rw [List.take_of_length_le hge] at ha
    rw [ho, ha] at h
    simp only [go_sem, hd, Nd.cs, List.length_map, Try.results27]
    exact ret_bd hbd rfl h
theorem occ_ac (s : Str) : ∀ e : Nd, e.Ok → OccAt s e := by
  refine Nd.ind (fun _ => occ_step s _ Nd.none_ok fun k hk => by cases hk) fun e _ hk hok => occ_step s e hok fun k hm => hk k hm ?_
  cases hok with | mk _ _ _ h => exact h k hm
theorem zdgs (l : List Dg) : (l.map zeroD).map dgD = l.map fun d => D.agg [iD d.err, iD 0] := by
  rw [List.map_map]; rfl
theorem lies_dgs (l : List Dg) : Lies (flat (l.map dgD)) 2 0 (l.map dgD) := by
  refine lies_of fun x hx => ?_
  obtain ⟨d, -, rfl⟩ := List.mem_map.1 hx
  refine ⟨rfl, fun y hy => ?_⟩
  simp only [dgD, D.cells, List.mem_cons, List.not_mem_nil, or_false] at hy
  rcases hy with rfl | rfl <;> rfl
theorem dg_get {l : List Dg} {i : Nat} (h : i < l.length) : List.getD (l.map dgD) i default = dgD (l.getD i ⟨0, 0⟩) := getD_mapD (d := ⟨0, 0⟩) h
theorem flat_dgs_len (l : List Dg) : (flat (l.map dgD)).length = l.length * 2 := by
  have := flat_len (sz := 2) (xs := l.map dgD) fun x hx => by
    obtain ⟨d, -, rfl⟩ := List.mem_map.1 hx
    rfl
  simpa using this
set_option maxHeartbeats 4000000 in
/-- Reports with offsets 0. -/
theorem zero_ac (l : List Dg) (hl : l.length ≤ 20) (σ : St) (G : Glob) (R : A → St → Prop) (h : R (.d (dgsD (l.map zeroD))) σ) : AC Try.prog G 25 [.d (dgsD l)] σ R := by
  unfold dgsD at h ⊢
  refine ac_enter mixed Try.func25 rfl Try.ntmps25 (by simp only [go_sem]) fun hbd => ?_
  simp only [List.length_cons, List.length_nil, Nat.reduceAdd, Nat.reduceSub, List.replicate_succ, List.replicate_zero, List.cons_append, List.nil_append]
  simp only [go_sem, Try.results25]
  refine aw_loop (fun m fr st => ∃ j : Nat, j ≤ l.length ∧ m = l.length - j ∧ fr = [.d (.sl 2 (l.map dgD)), .any, .any, .rs σ.length 2 0 j (some 75), dn j, .any, .any, .any, .any, .any, .any, .any, .any, .any, .any, .any, .any, .any, .any, .any, .any, .any] ∧ st = σ ++ [some (.cells (flat (((l.take j).map zeroD).map dgD)))]) l.length _ ?_ ?_
  · exact Wk.mask [0, 3, 4] ⟨0, by omega, by omega, rfl, rfl⟩
  rintro m fr st ⟨j, hj, hm, rfl, rfl⟩
  rcases Nat.lt_or_ge j l.length with hlt | hge
  · have hd : decide ((j : Int) < (l.length : Int)) = true := by simp; omega
    have e1 := dg_get hlt
    have w1 := wrapS j (by omega)
    generalize hv : l.getD j ⟨0, 0⟩ = v at e1
    have hvd : dgD v = .agg [iD v.err, iD v.pos] := rfl
    rw [hvd] at e1
    simp only [go_sem, hd, e1, w1, List.length_map, Try.results25]
    have hfl := flat_dgs_len ((l.take j).map zeroD)
    rw [List.length_map, List.length_take, Nat.min_eq_left hj] at hfl
    refine ⟨⟨by omega, by omega⟩, ⟨hfl, by simp only [maxLen]; omega, by omega⟩, ?_⟩
    exact Wk.keep [0, 3, 4] [2] (by decide) (Nat.le_refl _) hbd ⟨l.length - (j + 1), by omega, j + 1, by omega, rfl, by simp only [go_sem], by
      rw [take_getD ⟨0, 0⟩ hlt, hv, List.map_append, List.map_append, flat_append]
      simp only [go_sem]
      rfl⟩
  · have hd : decide ((j : Int) < (l.length : Int)) = false := by simp; omega
    simp only [go_sem, hd, List.length_map, Try.results25]
    obtain rfl : j = l.length := by omega
    rw [List.take_length]
    refine ret_frz 0 2 0 ((l.map zeroD).map dgD) rfl (lies_dgs _) ?_
    have e : A.frz (σ.length + 0) 2 0 ((l.map zeroD).map dgD) (A.rs σ.length 2 0 l.length (some 75)) = .d (.sl 2 ((l.map zeroD).map dgD)) := by simp [A.frz]
    rw [e]
    exact ret_bd hbd rfl h
theorem nd_cells (e : Nd) : e.d.cells = e.cs := by rw [Nd.d_eq]; rfl
theorem lies_nds (l : List Nd) : Lies (flat (l.map Nd.d)) 9 0 (l.map Nd.d) := by
  refine lies_of fun x hx => ?_
  obtain ⟨d, -, rfl⟩ := List.mem_map.1 hx
  rw [nd_cells]
  refine ⟨rfl, fun y hy => ?_⟩
  simp only [Nd.cs, List.mem_cons, List.not_mem_nil, or_false] at hy
  rcases hy with rfl | rfl | rfl | rfl | rfl | rfl | rfl | rfl | rfl <;> rfl
theorem flat_nds_len (l : List Nd) : (flat (l.map Nd.d)).length = l.length * 9 := by
  have := flat_len (sz := 9) (xs := l.map Nd.d) fun x hx => by
    obtain ⟨d, -, rfl⟩ := List.mem_map.1 hx
    rw [nd_cells]; rfl
  simpa using this
theorem flat_nd_snoc (l : List Nd) (e : Nd) : flat ((l ++ [e]).map Nd.d) = flat (l.map Nd.d) ++ e.cs.map .d := by
  rw [List.map_append, flat_append]
  congr 1
  rw [← nd_cells]; simp [flat]
theorem kids_nodes {e : Nd} {n : Nat} (h : e.nodes ≤ n) : e.kids.length ≤ n ∧ ∀ k ∈ e.kids, k.nodes ≤ n := by
  rw [Nd.nodes_eq] at h
  have h1 : ∀ l : List Nd, l.length ≤ (l.map Nd.nodes).sum ∧ ∀ k ∈ l, k.nodes ≤ (l.map Nd.nodes).sum := by
    intro l
    induction l with
    | nil => exact ⟨Nat.le_refl _, fun k hk => by cases hk⟩
    | cons a r ih =>
      have := Nd.nodes_eq a
      simp only [List.map_cons, List.sum_cons, List.length_cons]
      refine ⟨by omega, fun k hk => ?_⟩
      rcases List.mem_cons.1 hk with rfl | hk
      · omega
      · have := ih.2 k hk; omega
  have := h1 e.kids
  exact ⟨by omega, fun k hk => by have := this.2 k hk; omega⟩
def StripAt (e : Nd) : Prop := e.nodes ≤ 10000 → ∀ (σ : St) (G : Glob) (R : A → St → Prop), R (.d (stripM e).d) σ → AC Try.prog G 24 [.d e.d] σ R
set_option maxHeartbeats 4000000 in
theorem strip_step (e : Nd) (ih : ∀ k ∈ e.kids, StripAt k) : StripAt e := by
  intro hn σ G R h
  have hl := (kids_nodes hn).1
  have hst : (stripM e).d = .agg [iD e.kind, .str e.name, .str e.other, iD e.n, iD e.len, iD e.init, .bool e.ghost, .sl 9 ((e.kids.map stripM).map Nd.d), iD 0] := by
    rw [Nd.d_eq]
    cases e
    simp only [stripM, Nd.kind, Nd.name, Nd.other, Nd.n, Nd.len, Nd.init, Nd.ghost, Nd.kids, Nd.pos, stripL_map]
  rw [hst] at h
  rw [Nd.d_eq]
  refine ac_enter' mixed Try.func24 rfl Try.ntmps24 (by simp only [go_sem]) fun hbd => ?_
  simp only [List.length_cons, List.length_nil, Nat.reduceAdd, Nat.reduceSub, List.replicate_succ, List.replicate_zero, List.cons_append, List.nil_append]
  simp only [go_sem, Try.results24]
  refine aw_loop (fun m fr st => ∃ j : Nat, j ≤ e.kids.length ∧ m = e.kids.length - j ∧ fr = [.any, .ref σ.length 0, .ref (σ.length + 1) 0, .ref (σ.length + 2) 0, dn j, .any, .any, .any, .any, .any, .any, .any, .any, .any, .any, .any, .any, .any, .any, .any, .any, .any, .any, .any, .any, .any, .any] ∧
    st = σ ++ [ncs e, some (.cells [di 0, .d (.str []), .d (.str []), di 0, di 0, di 0, db false, .d .nils, di 0]), some (.cells [di e.kind, .d (.str e.name), .d (.str e.other), di e.n, di e.len, di e.init, db e.ghost, .rs (σ.length + 3) 9 0 j (some 31), di 0]), some (.cells (flat (((e.kids.take j).map stripM).map Nd.d)))]) e.kids.length _ ?_ ?_
  · refine Wk.via (Weak.emptyIn (σ := σ) 2 7 9 (some 31) rfl rfl) ?_
    exact Wk.mask [1, 2, 3, 4] ⟨0, by omega, by omega, rfl, rfl⟩
  rintro m fr st ⟨j, hj, hm, rfl, rfl⟩
  rcases Nat.lt_or_ge j e.kids.length with hlt | hge
  · have hd : decide ((j : Int) < (e.kids.length : Int)) = true := by simp; omega
    have e1 := kid_d hlt
    have w1 := wrapS j (by omega)
    have hkd : e.kids.getD j Nd.none = e.kid j := rfl
    have ihj := ih _ (getD_mem Nd.none hlt) ((kids_nodes hn).2 _ (getD_mem Nd.none hlt))
    rw [hkd] at ihj
    have hfl := flat_nds_len ((e.kids.take j).map stripM)
    rw [List.length_map, List.length_take, Nat.min_eq_left hj] at hfl
    simp only [go_sem, hd, e1, w1, Nd.cs, List.length_map, Try.results24]
    refine aw_plan (.tk 5 2 <| .pure 7 <| .tk 2 0 <| .tk 4 8 <| .done) (by kernel_rfl) ?_
    simp only [go_sem, hd, e1, w1, Nd.cs, List.length_map, Try.results24]
    refine ⟨⟨by omega, by omega⟩, ?_⟩
    have htk : (e.kids.take (j + 1)).map stripM = (e.kids.take j).map stripM ++ [stripM (e.kid j)] := by rw [take_getD Nd.none hlt, List.map_append, hkd]; rfl
    generalize stripM (e.kid j) = t at ihj htk
    refine exP (.d (.agg [iD t.kind, .str t.name, .str t.other, iD t.n, iD t.len, iD t.init, .bool t.ghost, .sl 9 (t.kids.map Nd.d), iD t.pos])) ⟨fun σ' => ?_, ?_⟩
    · simp only [go_sem, Try.results24]
      rw [← Nd.d_eq, ← Nd.d_eq]
      exact ac' (ihj _ _ _ ⟨rfl, rfl⟩)
    simp only [go_sem, w1, hfl, Try.results24]
    refine ⟨⟨by simp only [maxLen]; omega, by omega⟩, ?_⟩
    exact Wk.keep [1, 2, 3, 4] [0, 1, 2, 5] (by decide) (Nat.le_refl _) hbd ⟨e.kids.length - (j + 1), by omega, j + 1, by omega, rfl, by (simp only [go_sem]) <;> rfl, by
      rw [htk, flat_nd_snoc]
      (simp only [go_sem, Nd.cs]) <;> rfl⟩
  · have hd : decide ((j : Int) < (e.kids.length : Int)) = false := by simp; omega
    obtain rfl : j = e.kids.length := by omega
    rw [List.take_length]
    simp only [go_sem, hd, Nd.cs, List.length_map, Try.results24]
    refine ret_frz 3 9 0 ((e.kids.map stripM).map Nd.d) rfl (lies_nds _) ?_
    have hx : A.frz (σ.length + 3) 9 0 ((e.kids.map stripM).map Nd.d) (A.agg [di e.kind, A.d (D.str e.name), A.d (D.str e.other), di e.n, di e.len, di e.init, db e.ghost, A.rs (List.length σ + 3) 9 0 e.kids.length (some 31), di 0]) = .d (.agg [iD e.kind, .str e.name, .str e.other, iD e.n, iD e.len, iD e.init, .bool e.ghost, .sl 9 ((e.kids.map stripM).map Nd.d), iD 0]) := by
      simp [A.frz, frzL, mkAgg]; rfl
    rw [hx]
    exact ret_bd hbd rfl h
theorem strip_ac : ∀ e : Nd, StripAt e :=
  Nd.ind (strip_step _ fun k hk => by cases hk) fun e _ hk => strip_step e fun k hm => hk k hm
def renNm (f t : Str) (e : Nd) : Str := if e.kind = 2 ∧ e.name = f then t else e.name
theorem renKids_len (f t : Str) (e : Nd) : (renKids f t e).length = e.kids.length := by
  unfold renKids
  split
  · cases e.kids <;> simp
  · simp
theorem renKids_get (f t : Str) (e : Nd) (j : Nat) (h : j < e.kids.length) : (renKids f t e).getD j Nd.none = if ((j : Int) == 0 && (e.kind == 7 || e.kind == 8) && e.name == f) = true then e.kid j else renM f t (e.kid j) := by
  have hr := ren_kids f t e
  have : (renKids f t e).getD j Nd.none = (renM f t e).kid j := by unfold Nd.kid; rw [hr]
  rw [this]
  cases j with
  | zero =>
    rw [ren_kid0]
    by_cases c : (e.kind = 7 ∨ e.kind = 8) ∧ e.name = f
    · rw [if_pos c, if_pos]; simpa using c
    · rw [if_neg c, if_neg]; simpa using c
  | succ j =>
    rw [ren_kidS, if_neg]
    simp; intro h; omega
def RenAt (f t : Str) (e : Nd) : Prop := e.nodes ≤ 10000 → ∀ (σ : St) (G : Glob) (R : A → St → Prop), R (.d (renM f t e).d) σ → AC Try.prog G 28 [.d e.d, .d (.str f), .d (.str t)] σ R
set_option maxHeartbeats 8000000 in
theorem ren_step (f t : Str) (e : Nd) (ih : ∀ k ∈ e.kids, RenAt f t k) : RenAt f t e := by
  intro hn σ G R h
  have hl := (kids_nodes hn).1
  have hst : (renM f t e).d = .agg [iD e.kind, .str (renNm f t e), .str e.other, iD e.n, iD e.len, iD e.init, .bool e.ghost, .sl 9 ((renKids f t e).map Nd.d), iD e.pos] := by
    have h1 := ren_kids f t e
    have h2 := ren_name f t e
    have h3 := ren_kind f t e
    rw [Nd.d_eq, h1, h2, h3]
    cases e
    simp only [renM, renNm, Nd.kind, Nd.name, Nd.other, Nd.n, Nd.len, Nd.init, Nd.ghost, Nd.kids, Nd.pos]
  rw [hst] at h
  rw [Nd.d_eq]
  refine ac_enterC' [5] mixed Try.func28 rfl Try.ntmps28 (by simp only [go_sem]) fun hbd => ?_
  simp only [List.length_cons, List.length_nil, Nat.reduceAdd, Nat.reduceSub, List.replicate_succ, List.replicate_zero, List.cons_append, List.nil_append]
  simp only [go_sem, Try.results28]
  have hc : (e.kind == 2 && e.name == f) = decide (e.kind = 2 ∧ e.name = f) := by
    rw [Bool.eq_iff_iff]; simp
  refine aw_cut (fun fr st => fr = [.any, .d (.str f), .d (.str t), .ref σ.length 0, .any, .any, .ref (σ.length + 1) 0, .ref (σ.length + 2) 0, .any, .any, .any, .any, .any, .any, .any, .any, .any, .any, .any, .any, .any, .any, .any, .any, .any, .any, .any, .any, .any, .any, .any, .any, .any, .any, .any, .any, .any, .any, .any, .any, .any, .any, .any, .any, .any, .any, .any, .any, .any, .any, .any, .any, .any, .any, .any, .any, .any, .any, .any, .any, .any, .any, .any, .any, .any, .any, .any, .any, .any, .any, .any] ∧
    st = σ ++ [ncs e, some (.cells [di 0, .d (.str []), .d (.str []), di 0, di 0, di 0, db false, .d .nils, di 0]), some (.cells [di e.kind, .d (.str (renNm f t e)), .d (.str e.other), di e.n, di e.len, di e.init, db e.ghost, .d .nils, di e.pos])]) ?_ ?_
  · simp only [go_sem, hc, Try.results28]
    unfold renNm
    refine ⟨fun c => ?_, fun c => ?_⟩
    · have c' := of_decide_eq_true c
      rw [if_pos c']
      exact Wk.mask [1, 2, 3, 6, 7] ⟨rfl, rfl⟩
    · have c' := of_decide_eq_false c
      rw [if_neg c']
      exact Wk.mask [1, 2, 3, 6, 7] ⟨rfl, rfl⟩
  rintro fr st ⟨rfl, rfl⟩
  simp only [go_sem, Try.results28]
  generalize renNm f t e = nm at h
  refine aw_loop (fun m fr st => ∃ j : Nat, j ≤ e.kids.length ∧ m = e.kids.length - j ∧ fr = [.any, .d (.str f), .d (.str t), .ref σ.length 0, .any, .any, .ref (σ.length + 1) 0, .ref (σ.length + 2) 0, dn j, .any, .any, .any, .any, .any, .any, .any, .any, .any, .any, .any, .any, .any, .any, .any, .any, .any, .any, .any, .any, .any, .any, .any, .any, .any, .any, .any, .any, .any, .any, .any, .any, .any, .any, .any, .any, .any, .any, .any, .any, .any, .any, .any, .any, .any, .any, .any, .any, .any, .any, .any, .any, .any, .any, .any, .any, .any, .any, .any, .any, .any, .any] ∧
    st = σ ++ [ncs e, some (.cells [di 0, .d (.str []), .d (.str []), di 0, di 0, di 0, db false, .d .nils, di 0]), some (.cells [di e.kind, .d (.str nm), .d (.str e.other), di e.n, di e.len, di e.init, db e.ghost, .rs (σ.length + 3) 9 0 j (some 31), di e.pos]), some (.cells (flat (((renKids f t e).take j).map Nd.d)))]) e.kids.length _ ?_ ?_
  · refine Wk.via (Weak.emptyIn (σ := σ) 2 7 9 (some 31) rfl rfl) ?_
    exact Wk.mask [1, 2, 3, 6, 7, 8] ⟨0, by omega, by omega, rfl, rfl⟩
  rintro m fr st ⟨j, hj, hm, rfl, rfl⟩
  rcases Nat.lt_or_ge j e.kids.length with hlt | hge
  · have hd : decide ((j : Int) < (e.kids.length : Int)) = true := by simp; omega
    have e1 := kid_d hlt
    have w1 := wrapS j (by omega)
    have hkd : e.kids.getD j Nd.none = e.kid j := rfl
    have ihj := ih _ (getD_mem Nd.none hlt) ((kids_nodes hn).2 _ (getD_mem Nd.none hlt))
    rw [hkd] at ihj
    have hlr : j < (renKids f t e).length := by rw [renKids_len]; exact hlt
    have hfl := flat_nds_len ((renKids f t e).take j)
    rw [List.length_take, renKids_len, Nat.min_eq_left hj] at hfl
    have htk := take_getD Nd.none hlr
    rw [renKids_get f t e j hlt] at htk
    simp only [go_sem, hd, e1, w1, Nd.cs, List.length_map, Try.results28]
    refine ⟨?_, fun c => ?_, fun c => ?_⟩
    · intro q
      refine ⟨q, fun q2 => ?_⟩
      rw [q, q2]; rfl
    · rw [if_pos c] at htk
      refine aw_plan (.tk 11 0 <| .done) (by kernel_rfl) ?_
      simp only [go_sem, hd, e1, w1, Nd.cs, List.length_map, hfl, Try.results28]
      refine ⟨⟨by omega, by omega⟩, ⟨by simp only [maxLen]; omega, by omega⟩, ?_⟩
      exact Wk.keep [1, 2, 3, 6, 7, 8] [0, 1, 2, 5] (by decide) (Nat.le_refl _) hbd ⟨e.kids.length - (j + 1), by omega, j + 1, by omega, rfl, by (simp only [go_sem]) <;> rfl, by
        rw [htk, flat_nd_snoc]
        (simp only [go_sem, Nd.cs]) <;> rfl⟩
    · rw [if_neg (by rw [c]; exact Bool.false_ne_true)] at htk
      refine aw_plan (.tk 7 2 <| .pure 9 <| .tk 2 0 <| .tk 4 10 <| .done) (by kernel_rfl) ?_
      simp only [go_sem, hd, e1, w1, Nd.cs, List.length_map, Try.results28]
      refine ⟨⟨by omega, by omega⟩, ?_⟩
      generalize renM f t (e.kid j) = t' at ihj htk
      refine exP (.d (.agg [iD t'.kind, .str t'.name, .str t'.other, iD t'.n, iD t'.len, iD t'.init, .bool t'.ghost, .sl 9 (t'.kids.map Nd.d), iD t'.pos])) ⟨fun σ' => ?_, ?_⟩
      · simp only [go_sem, Try.results28]
        rw [← Nd.d_eq, ← Nd.d_eq]
        exact ac' (ihj _ _ _ ⟨rfl, rfl⟩)
      simp only [go_sem, w1, hfl, Try.results28]
      refine ⟨⟨by simp only [maxLen]; omega, by omega⟩, ?_⟩
      exact Wk.keep [1, 2, 3, 6, 7, 8] [0, 1, 2, 5] (by decide) (Nat.le_refl _) hbd ⟨e.kids.length - (j + 1), by omega, j + 1, by omega, rfl, by (simp only [go_sem]) <;> rfl, by
        rw [htk, flat_nd_snoc]
        (simp only [go_sem, Nd.cs]) <;> rfl⟩
  · have hd : decide ((j : Int) < (e.kids.length : Int)) = false := by simp; omega
    obtain rfl : j = e.kids.length := by omega
    rw [List.take_of_length_le (by rw [renKids_len]; exact Nat.le_refl _)]
    simp only [go_sem, hd, Nd.cs, List.length_map, Try.results28]
    refine ret_frz 3 9 0 ((renKids f t e).map Nd.d) rfl (lies_nds _) ?_
    have hx : A.frz (σ.length + 3) 9 0 ((renKids f t e).map Nd.d) (A.agg [di e.kind, A.d (D.str nm), A.d (D.str e.other), di e.n, di e.len, di e.init, db e.ghost, A.rs (List.length σ + 3) 9 0 e.kids.length (some 31), di e.pos]) = .d (.agg [iD e.kind, .str nm, .str e.other, iD e.n, iD e.len, iD e.init, .bool e.ghost, .sl 9 ((renKids f t e).map Nd.d), iD e.pos]) := by
      simp [A.frz, frzL, mkAgg, renKids_len]; rfl
    rw [hx]
    exact ret_bd hbd rfl h
theorem ren_ac (f t : Str) : ∀ e : Nd, RenAt f t e :=
  Nd.ind (ren_step f t _ fun k hk => by cases hk) fun e _ hk => ren_step f t e fun k hm => hk k hm
end Go.Proofs.Ytfoblkeefpaceaa
end PartL5

section PartK11
/- Statements: what they share; assignments. -/
set_option linter.unusedSimpArgs false
set_option linter.unusedVariables false
set_option maxRecDepth 100000
namespace Go.Proofs.Ytfoblkeefpaceaa
open Go Go.Ab

def Kx.sx (X : Kx) : Sx := sxM X.S X.m X.p X.old
section
variable {X : Kx} {G : Glob} {W : List Dg} {σ0 : St}
theorem fit_nil {e : Nd} (h : e.nodes ≤ 10000) : FitB [] e := .inl (by simpa using h)
theorem own1_nat {B : Bnd} (hu : usableM X.S = true) (a : Nd) : ∃ v : Nat, ownM (den X.L B) a = v ∧ v ≤ 8 := by
  have h1 := own_range (okayL hu) B a
  exact ⟨(ownM (den X.L B) a).toNat, by omega, by omega⟩
theorem assigns_step (Y : Sx) {e : Nd} {i : Nat} (h : i < e.kids.length) : assignsM Y (e.kids.drop i) = oneM Y (e.kid i) (e.kid (i + 1)) ++ assignsM Y (e.kids.drop (i + 2)) := by
  rw [drop_getD Nd.none h]
  rcases Nat.lt_or_ge (i + 1) e.kids.length with h1 | h1
  · rw [drop_getD Nd.none h1]; rfl
  · rw [List.drop_of_length_le h1, List.drop_of_length_le (by omega)]
    have : e.kid (i + 1) = Nd.none := by unfold Nd.kid; rw [List.getD_eq_getElem?_getD, List.getElem?_eq_none h1]; rfl
    rw [this]; simp [assignsM, Nd.kid]
theorem truth_ac {e : Nd} (hok : e.Ok) (hn : FitB [] e) {ds : List Dg} {ib il : Nat} {σ : St} (hC : Ck X G W σ0 [] ds ib il σ) (hW : ds ++ truthM X.sx e <+: W) (R : A → St → Prop) (h : Does' X G W σ0 [] ds (truthM X.sx e) ib il σ R) : AC Try.prog G 42 [.ref X.ic 0, .d e.d] σ R := by
  rw [Nd.d_eq]
  refine ac_enter mixed Try.func42 rfl Try.ntmps42 (by simp only [go_sem]) fun hbd => ?_
  simp only [List.length_cons, List.length_nil, Nat.reduceAdd, Nat.reduceSub, List.replicate_succ, List.replicate_zero, List.cons_append, List.nil_append]
  unfold truthM at hW h
  by_cases hk : e.kind = 63
  · have c : (e.kind != 63) = false := by simpa using hk
    rw [if_neg (by omega)] at h
    simp only [go_sem, c, Try.results42]
    exact ⟨_, _, Weak.refl _ _ _ _, h _ _ _ _ (by simpa using hC.app _) (Stq.app (Stq.refl _ _ _ _))⟩
  · have c : (e.kind != 63) = true := by simpa using hk
    rw [if_pos hk] at hW h
    simp only [go_sem, c, Try.results42]
    rw [← Nd.d_eq]
    refine ac' (expr_ac e hok [] ds _ _ _ 1 (by omega) (hC.app _) hn hW _ fun r ib2 il2 σ2 k1 k2 => ?_)
    exact ⟨_, _, Weak.refl _ _ _ _, h _ _ _ _ k1 (Stq.app k2)⟩
set_option maxHeartbeats 8000000 in
theorem assigns_ac {e : Nd} (hok : e.Ok) (hn : FitB [] e) (i0 : Nat) (hi0 : i0 ≤ 1000) {ds : List Dg} {ib il : Nat} {σ : St} (hC : Ck X G W σ0 [] ds ib il σ) (hW : ds ++ assignsM X.sx (e.kids.drop i0) <+: W) (R : A → St → Prop) (h : Does' X G W σ0 [] ds (assignsM X.sx (e.kids.drop i0)) ib il σ R) :
    AC Try.prog G 90 [.ref X.ic 0, .d e.d, dn i0] σ R := by
  have hre : reachBytes < 9223372036854775000 := by decide
  have hkl := hok.len
  rw [Nd.d_eq]
  refine ac_enter' mixed Try.func90 rfl Try.ntmps90 (by simp only [go_sem]) fun hbd => ?_
  simp only [List.length_cons, List.length_nil, Nat.reduceAdd, Nat.reduceSub, List.replicate_succ, List.replicate_zero, List.cons_append, List.nil_append]
  simp only [go_sem, Try.results90]
  refine aw_loop (fun m fr st => ∃ i ib' il' dn0, m = e.kids.length - i ∧ i ≤ e.kids.length + 1002 ∧ dn0 ++ assignsM X.sx (e.kids.drop i) = assignsM X.sx (e.kids.drop i0) ∧ Ck X G W σ0 [] (ds ++ dn0) ib' il' st ∧ Stq X ib il (σ ++ [ncs e]) ib' il' st ∧ fr = [.ref X.ic 0, .any, .any, .any, .ref σ.length 0, .any, dn i, .any, .any, .any, .any, .any, .any, .any, .any, .any, .any, .any, .any, .any, .any, .any, .any, .any, .any, .any, .any, .any, .any, .any, .any, .any, .any, .any, .any, .any, .any, .any, .any, .any, .any, .any, .any, .any, .any, .any, .any, .any, .any, .any, .any]) (e.kids.length - i0) _ ?_ ?_
  · exact Wk.mask [0, 4, 6] ⟨i0, ib, il, [], rfl, by omega, rfl, by simpa using hC.app _, Stq.refl _ _ _ _, rfl⟩
  rintro m fr st ⟨i, ib', il', dn0, rfl, hi, hM, hCk, hst, rfl⟩
  have hloc := Stq.tree hC hst
  rcases Nat.lt_or_ge i e.kids.length with hlt | hge
  · have hd : decide ((i : Int) < (e.kids.length : Int)) = true := by simp; omega
    have e1 := kid_d hlt
    have w1 := wrapS i (by omega)
    have w2 : IntKind.i64.wrap ((i : Int) + 2) = ((i + 2 : Nat) : Int) := by rw [wrap64_id _ (by omega) (by omega)]; rfl
    rw [assigns_step _ hlt] at hM
    have hW2 : ds ++ dn0 ++ (oneM X.sx (e.kid i) (e.kid (i + 1)) ++ assignsM X.sx (e.kids.drop (i + 2))) <+: W := by rw [List.append_assoc, hM]; exact hW
    have hW3 := pre1 hW2
    simp only [go_sem, hd, live_of hloc, objK_of hloc, List.length_map, Try.results90]
    refine aw_plan (.take 2 <| .tk 3 5 <| .pure 8 <| .tk 2 0 <| .tk 2 3 <| .alt 9 (.tk 3 10 <| .done) <| .alt 10 (.take 9 <| .tk 2 11 <| .done) <| .stop) (by kernel_rfl) ?_
    simp only [go_sem, live_of hloc, objK_of hloc, List.length_map, e1, Nd.cs, Int.toNat_natCast, w1, Try.results90]
    refine exP (.d (e.kid (i + 1)).d) ⟨fun σ' => ?_, ?_⟩
    · simp only [go_sem, Try.results90]
      rw [← Nd.d_eq e]
      exact ac' (kid_ac e (i + 1) (by omega) hkl _ _ _ ⟨rfl, rfl⟩)
    rw [Nd.d_eq (e.kid (i + 1))]
    have hfin : ∀ (l : St) (ib2 il2 : Nat) (σ2 : St), Ck X G W σ0 [] (ds ++ dn0 ++ oneM X.sx (e.kid i) (e.kid (i + 1))) ib2 il2 σ2 → Stq X ib' il' (st ++ l) ib2 il2 σ2 → ∃ i' ib' il' dn0, e.kids.length - (i + 2) = e.kids.length - i' ∧ i' ≤ e.kids.length + 1002 ∧ dn0 ++ assignsM X.sx (e.kids.drop i') = assignsM X.sx (e.kids.drop i0) ∧ Ck X G W σ0 [] (ds ++ dn0) ib' il' σ2 ∧ Stq X ib il (σ ++ [ncs e]) ib' il' σ2 ∧ i' = i + 2 := fun l ib2 il2 σ2 q1 q2 =>
      ⟨i + 2, ib2, il2, dn0 ++ oneM X.sx (e.kid i) (e.kid (i + 1)), rfl, by omega, by rw [List.append_assoc]; exact hM, by rw [← List.append_assoc]; exact q1, hst.trans (Stq.app q2), rfl⟩
    have hc := hCk.rd.c
    unfold chk at hc
    by_cases k2 : (e.kid i).kind = 2
    · have c2 : ((e.kid i).kind != 2) = false := by simpa using k2
      have hone : oneM X.sx (e.kid i) (e.kid (i + 1)) = exprM X.C (e.kid i) [] (ownM (den X.L []) (e.kid i)) ++ exprM X.C (e.kid (i + 1)) [] (widthM (den X.L []) (e.kid (i + 1)) (ownM (den X.L []) (e.kid i))) := by
        unfold oneM; rw [if_neg (by omega)]; rfl
      obtain ⟨w, hw, hw8⟩ := own1_nat (X := X) (B := []) hCk.rd.us (e.kid i)
      rw [hw] at hone
      rw [hone] at hW3 hfin
      simp only [go_sem, c2, live_of hloc, objK_of hloc, List.length_map, e1, Nd.cs, Int.toNat_natCast, Try.results90]
      refine ⟨⟨by omega, by omega⟩, ?_⟩
      with_reducible apply And.intro
      all_goals
        rw [← Nd.d_eq (e.kid i)]
        refine ac' (own_ac X [] ib' _ (hok.kid i) _ (hCk.rd.app _) _ _ ?_)
        rw [hw]
        simp only [go_sem, Try.results90]
        rw [← Nd.d_eq (e.kid i)]
        refine ac' (expr_ac (e.kid i) (hok.kid i) [] _ _ _ _ w hw8 (hCk.app _) (hn.kid i) (pre1 hW3) _ fun r ib2 il2 σ2 q1 q2 => ?_)
        have hl0 := Stq.own hCk q2 (i := 0) rfl
        have hl1 := Stq.own hCk q2 (i := 1) rfl
        rw [Nat.add_zero] at hl0
        simp only [go_sem, live_of hl0, objK_of hl0, live_of hl1, objK_of hl1, Try.results90]
        rw [← Nd.d_eq (e.kid (i + 1))]
        refine ac' (free_ac (hok.kid (i + 1)) (expr_ac _ (hok.kid (i + 1))) w hw8 q1 (hn.kid (i + 1)) (pre2 hW3) _ fun r ib3 il3 σ3 q3 q4 => ?_)
        simp only [go_sem, w2, Try.results90]
        obtain ⟨i', ib4, il4, dn4, y1, y2, y3, y4, y5, rfl⟩ := hfin _ _ _ _ (by rw [List.append_assoc] at q3; exact q3) (q2.trans q4)
        exact Wk.mask [0, 4, 6] ⟨e.kids.length - (i + 2), by omega, i + 2, ib4, il4, dn4, rfl, by omega, y3, y4, y5, rfl⟩
    · have c2 : ((e.kid i).kind != 2) = true := by simpa using k2
      have hone : oneM X.sx (e.kid i) (e.kid (i + 1)) = [⟨44, (e.kid i).pos⟩] ++ exprM X.C (e.kid (i + 1)) [] (widthM (den X.L []) (e.kid (i + 1)) ((0 : Nat) : Int)) := by
        unfold oneM; rw [if_pos k2]; rfl
      rw [hone] at hW3 hfin
      simp only [go_sem, c2, live_of hloc, objK_of hloc, List.length_map, e1, Nd.cs, Int.toNat_natCast, Try.results90]
      refine ⟨⟨by omega, by omega⟩, ?_⟩
      with_reducible apply And.intro
      all_goals
        refine aw_plan (.tk 7 0 <| .done) (by kernel_rfl) ?_
        simp only [go_sem, live_old hc, objK_old hc, Try.results90]
        refine ac' (report_ac (hCk.app _) 44 (e.kid i).pos (pre1 hW3) _ fun r il2 σ2 q1 q2 => ?_)
        have hl1 := Stq.own hCk q2 (i := 1) rfl
        have hl0 := Stq.own hCk q2 (i := 0) rfl
        rw [Nat.add_zero] at hl0
        simp only [go_sem, live_of hl0, objK_of hl0, live_of hl1, objK_of hl1, Try.results90]
        rw [← Nd.d_eq (e.kid (i + 1))]
        refine ac' (free_ac (hok.kid (i + 1)) (expr_ac _ (hok.kid (i + 1))) 0 (by omega) q1 (hn.kid (i + 1)) (pre2 hW3) _ fun r ib3 il3 σ3 q3 q4 => ?_)
        simp only [go_sem, w2, Try.results90]
        obtain ⟨i', ib4, il4, dn4, y1, y2, y3, y4, y5, rfl⟩ := hfin _ _ _ _ (by rw [List.append_assoc] at q3; exact q3) (q2.trans q4)
        exact Wk.mask [0, 4, 6] ⟨e.kids.length - (i + 2), by omega, i + 2, ib4, il4, dn4, rfl, by omega, y3, y4, y5, rfl⟩
  · have hd : decide ((i : Int) < (e.kids.length : Int)) = false := by simp; omega
    rw [List.drop_of_length_le hge] at hM
    have hM' : dn0 = assignsM X.sx (e.kids.drop i0) := by rw [← hM]; simp [assignsM]
    rw [hM'] at hCk
    simp only [go_sem, hd, live_of hloc, objK_of hloc, List.length_map, Try.results90]
    exact ⟨_, _, Weak.refl _ _ _ _, h _ _ _ _ hCk (Stq.app hst)⟩
end
end Go.Proofs.Ytfoblkeefpaceaa
end PartK11

section PartK12
/- Statements without statements. -/
set_option linter.unusedSimpArgs false
set_option linter.unusedVariables false
set_option maxRecDepth 100000
namespace Go.Proofs.Ytfoblkeefpaceaa
open Go Go.Ab

section
variable {X : Kx} {G : Glob} {W : List Dg} {σ0 : St}
/-- What the check of a statement without statements comes to. -/
def HandAt (X : Kx) (G : Glob) (W : List Dg) (σ0 : St) (f : FuncId) (e : Nd) (M : List Dg) : Prop := ∀ (ds : List Dg) (ib il : Nat) (σ : St), Ck X G W σ0 [] ds ib il σ → ds ++ M <+: W → ∀ R : A → St → Prop, Does' X G W σ0 [] ds M ib il σ R → AC Try.prog G f [.ref X.ic 0, .d e.d] σ R
theorem claim_ac {e : Nd} (hok : e.Ok) (hn : FitB [] e) : HandAt X G W σ0 78 e (eM X.sx (e.kid 0) 1) := by
  intro ds ib il σ hC hW R h
  rw [Nd.d_eq]
  refine ac_enter mixed Try.func78 rfl Try.ntmps78 (by simp only [go_sem]) fun hbd => ?_
  simp only [List.length_cons, List.length_nil, Nat.reduceAdd, Nat.reduceSub, List.replicate_succ, List.replicate_zero, List.cons_append, List.nil_append]
  simp only [go_sem, Try.results78]
  rw [← Nd.d_eq]
  have hk : kidsM (fun k => exprM X.C k [] ((1 : Nat) : Int)) e 0 1 = eM X.sx (e.kid 0) 1 := kids_one _ _
  refine ac' (kids_ac hok 0 1 (by omega) (by omega) 1 (by omega) (fun k => expr_ac _ (hok.kid k)) (hC.app [ncs e]) (fun k => hn.kid k) (by rw [hk]; exact hW) _ fun r ib2 il2 σ2 q1 q2 => ?_)
  rw [hk] at q1
  exact ⟨_, _, Weak.refl _ _ _ _, h _ _ _ _ q1 (Stq.app q2)⟩
theorem assign_ac {e : Nd} (hok : e.Ok) (hn : FitB [] e) : HandAt X G W σ0 79 e (assignsM X.sx e.kids) := by
  intro ds ib il σ hC hW R h
  rw [Nd.d_eq]
  refine ac_enter mixed Try.func79 rfl Try.ntmps79 (by simp only [go_sem]) fun hbd => ?_
  simp only [List.length_cons, List.length_nil, Nat.reduceAdd, Nat.reduceSub, List.replicate_succ, List.replicate_zero, List.cons_append, List.nil_append]
  simp only [go_sem, Try.results79]
  rw [← Nd.d_eq]
  refine ac' (assigns_ac hok hn 0 (by omega) (hC.app [ncs e]) hW _ fun r ib2 il2 σ2 q1 q2 => ?_)
  exact ⟨_, _, Weak.refl _ _ _ _, h _ _ _ _ q1 (Stq.app q2)⟩
theorem atomic_ac {e : Nd} (hok : e.Ok) (hn : FitB [] e) : HandAt X G W σ0 80 e (truthM X.sx (e.kid 0) ++ assignsM X.sx (e.kids.drop 1)) := by
  intro ds ib il σ hC hW R h
  rw [Nd.d_eq]
  refine ac_enter mixed Try.func80 rfl Try.ntmps80 (by simp only [go_sem]) fun hbd => ?_
  simp only [List.length_cons, List.length_nil, Nat.reduceAdd, Nat.reduceSub, List.replicate_succ, List.replicate_zero, List.cons_append, List.nil_append]
  simp only [go_sem, Try.results80]
  rw [← Nd.d_eq]
  refine ac' (kid_ac e 0 (by omega) hok.len _ _ _ ?_)
  simp only [go_sem, Try.results80]
  refine ac' (truth_ac (hok.kid 0) (hn.kid 0) (hC.app [ncs e]) (pre1 hW) _ fun r ib2 il2 σ2 q1 q2 => ?_)
  have hloc := Stq.tree hC q2
  simp only [go_sem, live_of hloc, objK_of hloc, Try.results80]
  rw [← Nd.d_eq]
  refine ac' (assigns_ac hok hn 1 (by omega) q1 (pre2 hW) _ fun r ib3 il3 σ3 q3 q4 => ?_)
  rw [List.append_assoc] at q3
  exact ⟨_, _, Weak.refl _ _ _ _, h _ _ _ _ q3 (Stq.app (q2.trans q4))⟩
theorem nothing_ac {e : Nd} : HandAt X G W σ0 87 e [] := by
  intro ds ib il σ hC hW R h
  rw [Nd.d_eq]
  refine ac_enter mixed Try.func87 rfl Try.ntmps87 (by kernel_rfl) fun hbd => ?_
  simp only [List.length_cons, List.length_nil, Nat.reduceAdd, Nat.reduceSub, List.replicate_succ, List.replicate_zero, List.cons_append, List.nil_append]
  try simp only [go_sem, Try.results87]
  exact ⟨_, _, Weak.refl _ _ _ _, h _ _ _ _ (by rw [List.append_nil]; exact hC.app _) (Stq.app (Stq.refl _ _ _ _))⟩
theorem any_step {α : Type} {p : α → Bool} {l : List α} {j : Nat} (d : α) (h : j < l.length) (hn : (l.take j).any p = false) : (p (l.getD j d) = true → l.any p = true) ∧ (p (l.getD j d) = false → (l.take (j + 1)).any p = false) := by
  refine ⟨fun hp => List.any_eq_true.2 ⟨_, getD_mem d h, hp⟩, fun hp => by rw [take_getD d h, List.any_append, hn]; simp only [List.any_cons, List.any_nil, Bool.or_false, Bool.false_or]; exact hp⟩
set_option maxHeartbeats 8000000 in
theorem lock_ac {e : Nd} (hok : e.Ok) : HandAt X G W σ0 85 e (rep (!X.sx.lock e.name) 40 e.pos) := by
  intro ds ib il σ hC hW R h
  have hre : reachBytes < 9223372036854775000 := by decide
  have hll := hC.rd.ok.locks
  have hc := hC.rd.c
  have hnew : newId σ.length [0] X.ic = some X.ic := by unfold newId; rw [if_pos (lt_of_some hc)]
  unfold chk at hc
  rw [Nd.d_eq]
  refine ac_enterC' [6] mixed Try.func85 rfl Try.ntmps85 (by simp only [go_sem]) fun hbd => ?_
  simp only [List.length_cons, List.length_nil, Nat.reduceAdd, Nat.reduceSub, List.replicate_succ, List.replicate_zero, List.cons_append, List.nil_append]
  simp only [go_sem, live_old hc, objK_old hc, List.length_map, Try.results85]
  refine aw_cut (fun fr st => X.S.locks.any (fun l => l.mod == X.m && l.name == e.name) = false ∧ fr = [.ref X.ic 0, .any, .any, .ref σ.length 0, .any, .any, .any, .any, .any, .any, .any, .any, .any, .any, .any, .any, .any, .any, .any, .any, .any, .any, .any, .any, .any, .any, .any, .any, .any, .any, .any, .any, .any, .any, .any, .any, .any, .any] ∧ st = σ ++ [ncs e]) ?_ ?_
  · simp only [go_sem, live_old hc, objK_old hc, List.length_map, Try.results85]
    refine aw_loop (fun m fr st => ∃ j : Nat, j ≤ X.S.locks.length ∧ m = X.S.locks.length - j ∧ (X.S.locks.take j).any (fun l => l.mod == X.m && l.name == e.name) = false ∧ fr = [.ref X.ic 0, .any, .any, .ref σ.length 0, .any, .any, .any, .any, .any, .any, .d (.sl 12 (X.S.locks.map lkD)), dn X.S.locks.length, dn j, .any, .any, .any, .any, .any, .any, .any, .any, .any, .any, .any, .any, .any, .any, .any, .any, .any, .any, .any, .any, .any, .any, .any, .any, .any] ∧ st = σ ++ [ncs e]) X.S.locks.length _ ?_ ?_
    · exact Wk.mask [0, 3, 10, 11, 12] ⟨0, by omega, by omega, rfl, rfl, rfl⟩
    rintro m fr st ⟨j, hj, hm, ha, rfl, rfl⟩
    rcases Nat.lt_or_ge j X.S.locks.length with hlt | hge
    · have hd : decide ((j : Int) < (X.S.locks.length : Int)) = true := by simp; omega
      have e1 := lk_d hlt
      have w1 := wrapS j (by omega)
      obtain ⟨f1, f2⟩ := any_step (p := fun l : Lk => l.mod == X.m && l.name == e.name) lk0 hlt ha
      generalize X.S.locks.getD j lk0 = v at e1 f1 f2
      simp only [lkD, Nd.cs, List.cons_append, List.nil_append] at e1
      simp only [go_sem, List.length_map, hd, e1, w1, Try.results85]
      refine ⟨⟨by omega, by omega⟩, ?_⟩
      refine aw_plan (.tk 14 0 <| .done) (by kernel_rfl) ?_
      simp only [go_sem, live_old hc, objK_old hc, w1, Try.results85]
      refine ⟨fun c => ?_, fun c => ?_⟩
      · have hs : X.sx.lock e.name = true := f1 c
        rw [hs] at h
        exact ⟨_, _, Weak.refl _ _ _ _, h _ _ _ _ (by simpa [rep] using hC.app _) (Stq.app (Stq.refl _ _ _ _))⟩
      · exact Wk.keep [0, 3, 10, 11, 12] [0] (by decide) (Nat.le_refl _) hbd ⟨X.S.locks.length - (j + 1), by omega, j + 1, hlt, rfl, f2 c, by simp only [go_sem, hnew, refTo], by simp only [go_sem]⟩
    · have hd : decide ((j : Int) < (X.S.locks.length : Int)) = false := by simp; omega
      rw [List.take_of_length_le hge] at ha
      simp only [go_sem, List.length_map, hd, Try.results85]
      exact Wk.mask [0, 3] ⟨ha, rfl, rfl⟩
  · rintro fr st ⟨ha, rfl, rfl⟩
    have hs : X.sx.lock e.name = false := ha
    rw [hs] at hW h
    simp only [go_sem, Try.results85]
    refine aw_plan (.tk 7 0 <| .done) (by kernel_rfl) ?_
    simp only [go_sem, live_old hc, objK_old hc, Try.results85]
    refine ac' (report_ac (hC.app _) 40 e.pos hW _ fun r il2 σ2 q1 q2 => ?_)
    exact ⟨_, _, Weak.refl _ _ _ _, h _ _ _ _ q1 (Stq.app q2)⟩
def th0 : Th := ⟨[], 0, [], false, 0⟩
theorem th_d {l : List Th} {i : Nat} (h : i < l.length) : List.getD (l.map thD) i default = thD (l.getD i th0) := by
  rw [getD_mapD (d := th0) h]
set_option maxHeartbeats 8000000 in
theorem thread_ac {e : Nd} (hok : e.Ok) : HandAt X G W σ0 86 e (rep (!X.sx.thread e.name) 40 e.pos) := by
  intro ds ib il σ hC hW R h
  have hre : reachBytes < 9223372036854775000 := by decide
  have hll := hC.rd.ok.threads
  have hc := hC.rd.c
  have hnew : newId σ.length [0] X.ic = some X.ic := by unfold newId; rw [if_pos (lt_of_some hc)]
  unfold chk at hc
  rw [Nd.d_eq]
  refine ac_enterC' [6] mixed Try.func86 rfl Try.ntmps86 (by simp only [go_sem]) fun hbd => ?_
  simp only [List.length_cons, List.length_nil, Nat.reduceAdd, Nat.reduceSub, List.replicate_succ, List.replicate_zero, List.cons_append, List.nil_append]
  simp only [go_sem, live_old hc, objK_old hc, List.length_map, Try.results86]
  refine aw_cut (fun fr st => X.S.threads.any (fun l => l.name == e.name) = false ∧ fr = [.ref X.ic 0, .any, .any, .ref σ.length 0, .any, .any, .any, .any, .any, .any, .any, .any, .any, .any, .any, .any, .any, .any, .any, .any, .any, .any, .any, .any, .any, .any, .any, .any, .any] ∧ st = σ ++ [ncs e]) ?_ ?_
  · simp only [go_sem, live_old hc, objK_old hc, List.length_map, Try.results86]
    refine aw_loop (fun m fr st => ∃ j : Nat, j ≤ X.S.threads.length ∧ m = X.S.threads.length - j ∧ (X.S.threads.take j).any (fun l => l.name == e.name) = false ∧ fr = [.ref X.ic 0, .any, .any, .ref σ.length 0, .any, .any, .any, .any, .any, .any, .d (.sl 5 (X.S.threads.map thD)), dn X.S.threads.length, dn j, .any, .any, .any, .any, .any, .any, .any, .any, .any, .any, .any, .any, .any, .any, .any, .any] ∧ st = σ ++ [ncs e]) X.S.threads.length _ ?_ ?_
    · exact Wk.mask [0, 3, 10, 11, 12] ⟨0, by omega, by omega, rfl, rfl, rfl⟩
    rintro m fr st ⟨j, hj, hm, ha, rfl, rfl⟩
    rcases Nat.lt_or_ge j X.S.threads.length with hlt | hge
    · have hd : decide ((j : Int) < (X.S.threads.length : Int)) = true := by simp; omega
      have e1 := th_d hlt
      have w1 := wrapS j (by omega)
      obtain ⟨f1, f2⟩ := any_step (p := fun l : Th => l.name == e.name) th0 hlt ha
      generalize X.S.threads.getD j th0 = v at e1 f1 f2
      simp only [thD, isD] at e1
      simp only [go_sem, List.length_map, hd, e1, w1, Try.results86]
      refine ⟨⟨by omega, by omega⟩, fun c => ?_, fun c => ?_⟩
      · have hs : X.sx.thread e.name = true := f1 c
        rw [hs] at h
        exact ⟨_, _, Weak.refl _ _ _ _, h _ _ _ _ (by simpa [rep] using hC.app _) (Stq.app (Stq.refl _ _ _ _))⟩
      · exact Wk.keep [0, 3, 10, 11, 12] [0] (by decide) (Nat.le_refl _) hbd ⟨X.S.threads.length - (j + 1), by omega, j + 1, hlt, rfl, f2 c, by simp only [go_sem, hnew, refTo], by simp only [go_sem]⟩
    · have hd : decide ((j : Int) < (X.S.threads.length : Int)) = false := by simp; omega
      rw [List.take_of_length_le hge] at ha
      simp only [go_sem, List.length_map, hd, Try.results86]
      exact Wk.mask [0, 3] ⟨ha, rfl, rfl⟩
  · rintro fr st ⟨ha, rfl, rfl⟩
    have hs : X.sx.thread e.name = false := ha
    rw [hs] at hW h
    refine aw_plan (.tk 7 0 <| .done) (by kernel_rfl) ?_
    simp only [go_sem, live_old hc, objK_old hc, Try.results86]
    refine ac' (report_ac (hC.app _) 40 e.pos hW _ fun r il2 σ2 q1 q2 => ?_)
    exact ⟨_, _, Weak.refl _ _ _ _, h _ _ _ _ q1 (Stq.app q2)⟩
end
end Go.Proofs.Ytfoblkeefpaceaa
end PartK12
