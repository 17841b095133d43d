/- CheckerOrder: the plain law. -/
import Derived.Test.YtpmjdaiboniagaaC19
import Derived.Test.YtpmjdaiboniagaaC22
set_option linter.unusedSimpArgs false
set_option linter.unusedVariables false
set_option maxRecDepth 100000
namespace Go.Proofs.Ytpmjdaiboniagaa
open Go Go.Ab

theorem good_sim {V : Int} {φ g : Int → Int} {f f' : Cnf} {b b' : List Stp} {s s' : Stp} (hφ : Nam V φ) (hs : stepOk f.vars ((f.cls.length + b.length : Nat) : Int) s = stepOk f'.vars ((f'.cls.length + b'.length : Nat) : Int) s')
    (hst : stepOk f.vars ((f.cls.length + b.length : Nat) : Int) s = true → InV V s.lits ∧ Img φ s.lits s'.lits ∧ s'.hints = s.hints.map g ∧ ∀ h ∈ s.hints, InV V (clauseAt f.cls b h.toNat) ∧ Img φ (clauseAt f.cls b h.toNat) (clauseAt f'.cls b' (g h).toNat)) :
    goodR f b s = goodR f' b' s' := by
  rw [goodR, goodR, ← hs]
  cases h : stepOk f.vars ((f.cls.length + b.length : Nat) : Int) s with
  | false => rfl
  | true =>
    obtain ⟨h1, h2, h3, h4⟩ := hst h
    rw [h3, sim_just hφ (inV_negs h1) (img_negs hφ h1 h2) h4]
theorem lits_perm {v : Int} {l l' : List Int} (h : l.Perm l') : litsFrom v [] l = litsFrom v [] l' := by
  rw [Bool.eq_iff_iff, litsFrom_iff, litsFrom_iff]
  have e : ∀ x, x ∈ l ↔ x ∈ l' := fun x => h.mem_iff
  simp only [e, (h.map absI).nodup_iff]
/-- The clauses that earlier good steps and a well-formed formula have. -/
theorem clause_inV {f : Cnf} {l : List Stp} {k : Nat} (hk : k ≤ l.length) (hv : validC f = true) (hw : ∀ s ∈ l, ∀ x ∈ s.lits, I64 x) (hg : ∀ j, j < k → goodR f (l.take j) (l.getD j stp0) = true) (n : Nat) : InV f.vars (clauseAt f.cls (l.take k) n) := by
  obtain ⟨hv1, hv2⟩ := validC_iff.1 hv
  refine clauseAt_all (p := InV f.vars) (fun x hx => by cases hx) (fun c hc x hx => by have := hv2 c hc x hx; omega) (fun t ht => ?_) n
  obtain ⟨j, hj, rfl⟩ := List.getElem_of_mem ht
  have hjk : j < k := by rw [List.length_take] at hj; omega
  have e : (l.take k)[j] = l.getD j stp0 := by rw [List.getElem_take, List.getD_eq_getElem?_getD, List.getElem?_eq_getElem (by omega)]; rfl
  rw [e]
  exact good_range hv (hw _ (getD_mem stp0 (by omega))) (hg j hjk)
def ordC (c : List Int) : List Int := c.reverse ++ c.take 1
def ordF (f : Cnf) : Cnf := ⟨f.vars, f.cls.map ordC⟩
def ordS (s : Stp) : Stp := ⟨s.lits.reverse, s.hints⟩
theorem mem_ordC {c : List Int} {x : Int} : x ∈ ordC c ↔ x ∈ c := by
  simp only [ordC, List.mem_append, List.mem_reverse]
  exact ⟨fun h => h.elim id List.mem_of_mem_take, .inl⟩
theorem getD_map {α β : Type} {f : α → β} {l : List α} {n : Nat} {a : α} {b : β} (h : f a = b) : (l.map f).getD n b = f (l.getD n a) := by
  rw [List.getD_eq_getElem?_getD, List.getElem?_map, List.getD_eq_getElem?_getD]
  cases l[n]? with
  | none => exact h.symm
  | some x => rfl
theorem clauseAt_map {cls : List (List Int)} {b : List Stp} {p : List Int → List Int} {q : Stp → Stp} (hp : p [] = []) (hq : q stp0 = stp0) (n : Nat) : clauseAt (cls.map p) (b.map q) n = if n < cls.length then p (cls.getD n []) else (q (b.getD (n - cls.length) stp0)).lits := by
  unfold clauseAt
  rw [List.length_map, getD_map (f := p) hp, getD_map (f := q) hq]
theorem valid_ord (f : Cnf) : validC (ordF f) = validC f := by
  rw [Bool.eq_iff_iff, validC_iff, validC_iff]
  simp only [ordF, List.length_map, List.mem_map]
  constructor
  · rintro ⟨h, k⟩; exact ⟨h, fun c hc x hx => k _ ⟨c, hc, rfl⟩ x (mem_ordC.2 hx)⟩
  · rintro ⟨h, k⟩
    refine ⟨h, ?_⟩
    rintro _ ⟨c, hc, rfl⟩ x hx
    exact k c hc x (mem_ordC.1 hx)
theorem order_eq {f : Cnf} {l : List Stp} (hl : l.length ≤ 20000) (hw : ∀ s ∈ l, ∀ x ∈ s.lits, I64 x) : chk (goodR (ordF f)) (ordF f) (l.map ordS) = chk (goodR f) f l := by
  rw [chk, chk, valid_ord, List.length_map]
  cases hv : validC f with
  | false => rfl
  | true =>
  rw [if_neg (by simp), if_neg (by omega), if_neg (by simp), if_neg (by omega)]
  have := chk_eq (good := goodR f) (good' := goodR (ordF f)) (l := l) (l' := l.map ordS) (by simp) (k := 0) rfl fun i _ hi hg => ?_
  · simpa using this.symm
  have hg' : ∀ j, j < i → goodR f (l.take j) (l.getD j stp0) = true := fun j hj => hg j hj (by omega)
  rw [← List.map_take, getD_map (f := ordS) (a := stp0) (b := stp0) rfl]
  have hmem := getD_mem stp0 hi
  obtain ⟨s, hse⟩ : ∃ s, l.getD i stp0 = s := ⟨_, rfl⟩
  rw [hse] at hmem ⊢
  refine good_sim (V := f.vars) (φ := fun x => x) (g := fun x => x) (Nam.id _) ?_ fun hok => ⟨?_, ?_, ?_, fun h hh => ⟨clause_inV (by omega) hv hw hg' _, ?_⟩⟩
  · simp only [stepOk, ordF, ordS, List.length_map]
    rw [lits_perm (List.reverse_perm s.lits).symm]
  · simp only [stepOk, Bool.and_eq_true] at hok
    intro x hx
    have := litsFrom_range (hw _ hmem) hok.1 x hx
    omega
  · exact img_id.2 fun y => by simp [ordS]
  · simp [ordS]
  · rw [img_id]
    intro y
    simp only [ordF]
    rw [clauseAt_map rfl rfl, clauseAt]
    split
    · exact mem_ordC
    · simp [ordS]
end Go.Proofs.Ytpmjdaiboniagaa
