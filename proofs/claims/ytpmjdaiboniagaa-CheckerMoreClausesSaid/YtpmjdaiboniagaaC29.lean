/- CheckerMoreClauses: the plain law. -/
import Derived.Test.YtpmjdaiboniagaaC23
set_option linter.unusedSimpArgs false
set_option linter.unusedVariables false
set_option maxRecDepth 100000
namespace Go.Proofs.Ytpmjdaiboniagaa
open Go Go.Ab

/-- A hint's new number behind m further clauses. -/
def mvH (n m : Nat) (h : Int) : Int := if (n : Int) ≤ h then IntKind.i64.wrap (h + (m : Int)) else h
def mvS (n m : Nat) (s : Stp) : Stp := ⟨s.lits, s.hints.map (mvH n m)⟩
def morF (f : Cnf) (more : List (List Int)) : Cnf := ⟨f.vars, f.cls ++ more⟩
theorem mvH_ok {n m b : Nat} {h : Int} (hm : m ≤ 1000) (hb : n + b ≤ 100000) (hI : I64 h) : (0 ≤ mvH n m h ∧ mvH n m h < ((n + m + b : Nat) : Int)) ↔ (0 ≤ h ∧ h < ((n + b : Nat) : Int)) := by
  unfold mvH
  unfold I64 at hI
  split
  · rw [IntKind.wrap_i64]; omega
  · omega
theorem mvH_nat {n m b : Nat} {h : Int} (hm : m ≤ 1000) (hb : n + b ≤ 100000) (h0 : 0 ≤ h) (h1 : h < ((n + b : Nat) : Int)) : (mvH n m h).toNat = if h.toNat < n then h.toNat else h.toNat + m := by
  unfold mvH
  split
  · rw [wrap64_id _ (by omega) (by omega), if_neg (by omega)]; omega
  · rw [if_pos (by omega)]
theorem hintsOk_iff {n : Int} {l : List Int} : hintsOk n l = true ↔ ∀ h ∈ l, 0 ≤ h ∧ h < n := by
  simp only [hintsOk, List.all_eq_true, Bool.not_eq_true', Bool.or_eq_false_iff, decide_eq_false_iff_not]
  exact ⟨fun h x hx => by have := h x hx; omega, fun h x hx => by have := h x hx; omega⟩
theorem hints_mv {n m b : Nat} {l : List Int} (hm : m ≤ 1000) (hb : n + b ≤ 100000) (hI : ∀ h ∈ l, I64 h) : hintsOk ((n + m + b : Nat) : Int) (l.map (mvH n m)) = hintsOk ((n + b : Nat) : Int) l := by
  rw [Bool.eq_iff_iff, hintsOk_iff, hintsOk_iff]
  constructor
  · intro H h hh
    exact (mvH_ok hm hb (hI h hh)).1 (H _ (List.mem_map_of_mem hh))
  · intro H x hx
    obtain ⟨h, hh, rfl⟩ := List.mem_map.1 hx
    exact (mvH_ok hm hb (hI h hh)).2 (H h hh)
theorem getD_app_l {α : Type} {l m : List α} {i : Nat} {d : α} (h : i < l.length) : (l ++ m).getD i d = l.getD i d := by
  rw [List.getD_eq_getElem?_getD, List.getElem?_append_left h, List.getD_eq_getElem?_getD]
theorem more_eq {f : Cnf} {l : List Stp} {more : List (List Int)} (hm : more.length ≤ 1000) (hn : f.cls.length ≤ 1000) (hl : l.length ≤ 20000) (hw : ∀ s ∈ l, ∀ x ∈ s.lits, I64 x) (hh : ∀ s ∈ l, ∀ x ∈ s.hints, I64 x) (hv : validC (morF f more) = true) :
    chk (goodR (morF f more)) (morF f more) (l.map (mvS f.cls.length more.length)) = chk (goodR f) f l := by
  have hv' : validC f = true := by
    obtain ⟨h1, h2⟩ := validC_iff.1 hv
    simp only [morF, List.length_append] at h1 h2
    exact validC_iff.2 ⟨⟨h1.1, h1.2.1, by omega⟩, fun c hc => h2 c (List.mem_append_left _ hc)⟩
  rw [chk, chk, hv, hv', List.length_map, if_neg (by simp), if_neg (by omega), if_neg (by simp), if_neg (by omega)]
  have := chk_eq (good := goodR f) (good' := goodR (morF f more)) (l := l) (l' := l.map (mvS f.cls.length more.length)) (by simp) (k := 0) rfl fun i _ hi hg => ?_
  · simpa using this.symm
  have hg' : ∀ j, j < i → goodR f (l.take j) (l.getD j stp0) = true := fun j hj => hg j hj (by omega)
  rw [← List.map_take, getD_map (f := mvS f.cls.length more.length) (a := stp0) (b := stp0) rfl]
  have hmem := getD_mem stp0 hi
  obtain ⟨s, hse⟩ : ∃ s, l.getD i stp0 = s := ⟨_, rfl⟩
  rw [hse] at hmem ⊢
  have htl : (l.take i).length = i := by rw [List.length_take]; omega
  refine good_sim (V := f.vars) (φ := fun x => x) (g := mvH f.cls.length more.length) (Nam.id _) ?_ fun hok => ⟨?_, ?_, rfl, fun h hhh => ⟨clause_inV (by omega) hv' hw hg' _, ?_⟩⟩
  · simp only [stepOk, morF, mvS, List.length_map, List.length_append, htl]
    rw [hints_mv (by omega) (by omega) (hh s hmem)]
  · simp only [stepOk, Bool.and_eq_true] at hok
    intro x hx
    have := litsFrom_range (hw _ hmem) hok.1 x hx
    omega
  · exact img_id.2 fun y => Iff.rfl
  · rw [img_id]
    intro y
    simp only [stepOk, Bool.and_eq_true, htl] at hok
    have hr := hintsOk_range hok.2 h hhh
    rw [mvH_nat (by omega) (by omega) hr.1 hr.2]
    simp only [morF, clauseAt, List.length_append]
    split
    · rename_i h1
      rw [if_pos (by omega), getD_app_l h1]
    · rename_i h1
      rw [if_neg (by omega), getD_map (f := mvS f.cls.length more.length) (a := stp0) (b := ⟨[], []⟩) rfl]
      rw [show h.toNat + more.length - (f.cls.length + more.length) = h.toNat - f.cls.length by omega]
      exact Iff.rfl
end Go.Proofs.Ytpmjdaiboniagaa
