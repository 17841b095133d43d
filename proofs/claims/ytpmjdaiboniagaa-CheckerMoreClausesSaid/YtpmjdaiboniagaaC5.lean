/- The reference's lists of steps. -/
import Derived.Test.YtpmjdaiboniagaaC4
set_option linter.unusedSimpArgs false
set_option maxRecDepth 100000
namespace Go.Proofs.Ytpmjdaiboniagaa
open Go Go.Ab

theorem good_ac {f : Cnf} {before : List Stp} {s : Stp} (hf : Fine f (before ++ [s])) (hv : validC f = true) (hb : ∀ t ∈ before, ∀ x ∈ t.lits, -8000 ≤ x ∧ x ≤ 8000) (hs : stepOk f.vars ((f.cls.length + before.length : Nat) : Int) s = true)
    (σ : St) (G : Glob) (R : A → St → Prop) (h : R (db (justR (clauseAt f.cls before) (negs s.lits) s.hints)) σ) : AC Try.prog G 67 [.d (cnfD f), .d (stpsD before), .d (stpD s)] σ R := by
  obtain ⟨hv1, hv2⟩ := validC_iff.1 hv
  simp only [stepOk, Bool.and_eq_true] at hs
  have h0 := hf.lits s (by simp)
  have hlen := hf.steps
  rw [List.length_append, List.length_singleton] at hlen
  have hcls := hf.cls
  refine just_ac f before s (by omega) (by omega) (by omega) (by omega) (fun x hx => ?_) (fun x hx => ?_) (fun n => ⟨?_, ?_⟩) σ G R h
  · have := litsFrom_range h0.2.2 hs.1 x hx; omega
  · have := hintsOk_range hs.2 x hx; omega
  · exact clauseAt_all (p := fun c => c.length ≤ reachBytes) (Nat.zero_le _) hf.len (fun t ht => by have := hf.lits t (by simp [ht]); simp only [reachBytes]; omega) n
  · exact clauseAt_all (p := fun c => ∀ x ∈ c, -8000 ≤ x ∧ x ≤ 8000) (fun x hx => by cases hx) (fun c hc x hx => by have := hv2 c hc x hx; omega) hb n
theorem rcheck_ac (f : Cnf) (l : List Stp) (hf : Fine f l) (σ : St) (G : Glob) (R : A → St → Prop) (h : R (.tup [di (chk (goodR f) f l).1, di (chk (goodR f) f l).2]) σ) : AC Try.prog G 38 [.d (cnfD f), .d (stpsD l)] σ R := by
  refine ac_enter mixed Try.func38 rfl Try.ntmps38 (by simp only [go_sem]) fun hbd => ?_
  simp only [List.length_cons, List.length_nil, Nat.reduceAdd, Nat.reduceSub, List.replicate_succ, List.replicate_zero, List.cons_append, List.nil_append]
  have hl := hf.steps
  have hc := hf.cls
  simp only [cnfD, stpsD, go_sem, List.length_map]
  refine ac' (rvalid_ac f hf.vars (by simp only [reachBytes]; omega) hf.len _ _ _ ?_)
  have d1 : decide ((20000 : Int) < (l.length : Int)) = false := by simp; omega
  simp only [go_sem, List.length_map, d1, Try.results38]
  refine ⟨fun hv => ?_, fun hv => ?_⟩
  · simp only [Bool.not_eq_true'] at hv
    rw [chk, if_pos (by simp [hv])] at h
    exact ret_bd hbd rfl h
  simp only [Bool.not_eq_false'] at hv
  rw [chk, if_neg (by simp [hv]), if_neg (by omega)] at h
  refine aw_loop (fun m fr st => ∃ j : Nat, j ≤ l.length ∧ m = l.length - j ∧ (∀ t ∈ l.take j, ∀ x ∈ t.lits, -8000 ≤ x ∧ x ≤ 8000) ∧ R (.tup [di (chkFrom (goodR f) l j (l.drop j)).1, di (chkFrom (goodR f) l j (l.drop j)).2]) σ ∧
    fr = [.any, .d (.sl 2 (l.map stpD)), .ref σ.length 0, .any, .any, .any, dn j, .any, .any, .any, .any, .any, .any, .any, .any, .any, .any, .any, .any, .any, .any, .any, .any, .any, .any, .any, .any, .any, .any, .any, .any, .any, .any, .any, .any, .any, .any, .any, .any, .any, .any, .any, .any, .any, .any] ∧ st = σ ++ [some (Ob.cells [A.d (iD f.vars), A.d (clsD f.cls)])]) l.length _
    (Wk.mask [1, 2, 6] ⟨0, by omega, rfl, by simp, h, rfl, rfl⟩) ?_
  clear h
  rintro m fr st ⟨j, hj, hm, hall, hR, rfl, rfl⟩
  rcases Nat.lt_or_ge j l.length with hlt | hge
  · have hd : decide ((j : Int) < (l.length : Int)) = true := by simp; omega
    have e1 := stpD_getD hlt
    have w2 := wrapS j (by omega)
    have w5 : IntKind.i64.wrap ((f.cls.length : Int) + (j : Int)) = ((f.cls.length + j : Nat) : Int) := by rw [wrap64_id _ (by omega) (by omega)]; omega
    have htk : l.take (j + 1) = l.take j ++ [l.getD j ⟨[], []⟩] := by
      rw [List.take_add_one, List.getD_eq_getElem?_getD, List.getElem?_eq_getElem hlt]; rfl
    have htl : (l.take j).length = j := by rw [List.length_take]; omega
    have hmem := getD_mem (⟨[], []⟩ : Stp) hlt
    have hf' : Fine f (l.take j ++ [l.getD j ⟨[], []⟩]) := ⟨hf.vars, hf.cls, hf.len, by rw [← htk, List.length_take]; omega, fun t ht => hf.lits t (by rw [← htk] at ht; exact List.mem_of_mem_take ht)⟩
    have hsl := hf.lits _ hmem
    rw [drop_getD ⟨[], []⟩ hlt, chkFrom, goodR, htl] at hR
    generalize l.getD j ⟨[], []⟩ = s at e1 hR htk hf' hsl
    simp only [go_sem, List.length_map, clsD, hd, e1, w2, w5]
    refine ⟨⟨by omega, by omega⟩, ac' (rstep_ac f.vars _ s (by simp only [reachBytes]; omega) (by simp only [reachBytes]; omega) _ _ _ ?_)⟩
    simp only [go_sem, List.length_map, clsD, hd, e1, w2, w5, Try.results38]
    refine ⟨fun hs => ⟨hs, by omega, by omega, by omega⟩, fun hs => ⟨hs, by omega, by omega⟩, ex' (.bool (justR (clauseAt f.cls (l.take j)) (negs s.lits) s.hints)) ⟨fun hs => ?_, ?_⟩⟩
    · simp only [go_sem, ← List.map_take]
      refine ⟨by simpa using hs, ac' (good_ac hf' hv hall (by rw [htl]; exact hs) _ _ _ ⟨rfl, rfl⟩)⟩
    simp only [go_sem, List.length_map, w2, Try.results38]
    refine ⟨fun hb => by simpa using hb, fun hb => ret_bd hbd rfl ?_, fun hb => Wk.mask [1, 2, 6] ⟨l.length - (j + 1), by omega, j + 1, hlt, rfl, ?_, ?_, rfl, rfl⟩⟩
    · rw [if_neg (by intro hh; rw [Bool.and_eq_true] at hh; rw [hh.1, hh.2] at hb; cases hb)] at hR; exact hR
    · rw [htk]
      intro t ht
      rcases List.mem_append.1 ht with ht | ht
      · exact hall t ht
      · rw [List.mem_singleton.1 ht]
        intro x hx
        simp only [Bool.or_eq_false_iff, Bool.not_eq_false', stepOk, Bool.and_eq_true] at hb
        have := litsFrom_range hsl.2.2 hb.1.1 x hx
        have := (validC_iff.1 hv).1
        omega
    · rw [if_pos (by simpa using hb)] at hR; exact hR
  · have hd : decide ((j : Int) < (l.length : Int)) = false := by simp; omega
    simp only [go_sem, List.length_map, hd, Try.results38]
    rw [List.drop_eq_nil_of_le hge, chkFrom] at hR
    exact ret_bd hbd rfl hR
end Go.Proofs.Ytpmjdaiboniagaa
