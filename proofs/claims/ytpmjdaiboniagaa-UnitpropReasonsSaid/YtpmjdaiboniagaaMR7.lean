import Derived.Test.YtpmjdaiboniagaaMR6
import Derived.Test.YtpmjdaiboniagaaMR5
import Derived.Test.YtpmjdaiboniagaaRA
import Derived.Test.YtpmjdaiboniagaaMR1

section PartU23
/- Unit propagation, plain: closed, order, monotonic, reasons. -/
set_option linter.unusedSimpArgs false
set_option linter.unusedVariables false
namespace Go.Proofs.Ytpmjdaiboniagaa
open Go Go.Ab

theorem valid_nz {f : Cnf} (h : validC f = true) : ∀ c ∈ f.cls, ∀ l ∈ c, l ≠ 0 := fun c hc l hl => ((validC_spec h).2 c hc l hl).1
/-- What Propagate answers, as a chain. -/
theorem propS_chain {f : Cnf} {lits : List Int} (h : (validC f && litsOk f.vars [] lits) = true) : ∃ X : List (Int × Nat), (propS f lits).1 = initT [] lits ++ X.map (·.1) ∧ (propS f lits).2.1 = (initT [] lits).map (fun _ => -1) ++ X.map (fun p => (p.2 : Int)) ∧ Chain f.cls (initT [] lits) X ∧
    (((propS f lits).2.2 = -1 ∧ ∀ c ∈ f.cls, (statS (propS f lits).1 c 0).1 = 0) ∨ ∃ i : Nat, (propS f lits).2.2 = i ∧ i < f.cls.length ∧ (statS (propS f lits).1 (f.cls.getD i []) 0).1 = 1) := by
  obtain ⟨q1, q2, _⟩ := propS_spec h
  have hv := (validC_spec (Bool.and_eq_true _ _ ▸ h : _ ∧ _).1).1
  have hl := q1.len hv.1
  rw [propS, if_pos h] at q1 hl ⊢
  obtain ⟨X, a, b, c, d⟩ := run_chain (cls := f.cls) (k := (f.vars + 1).toNat) (T := initT [] lits) (Rs := (initT [] lits).map fun _ => -1)
  refine ⟨X, a, b, c, ?_⟩
  rw [← a] at d
  refine d.imp (fun d => ⟨d.1, findS_zero (d.2.resolve_left fun e => ?_)⟩) id
  rw [a, List.length_append, List.length_map] at hl
  omega
theorem propS_lits {f : Cnf} {lits : List Int} (h : (validC f && litsOk f.vars [] lits) = true) : ∀ l ∈ lits, l ∈ (propS f lits).1 := fun l hl => by
  obtain ⟨X, a, _⟩ := propS_chain h
  rw [a]; exact List.mem_append_left _ (initT_mem.2 (.inr hl))
theorem propS_mono {f g : Cnf} {lits all : List Int} (h : (validC f && litsOk f.vars [] lits) = true) (k : (validC g && litsOk g.vars [] all) = true) (hl : ∀ l ∈ lits, l ∈ all) (hs : SubC f.cls g.cls) (hc : (propS g all).2.2 = -1) :
    (propS f lits).2.2 = -1 ∧ ∀ l ∈ (propS f lits).1, l ∈ (propS g all).1 := by
  have zf := valid_nz (Bool.and_eq_true _ _ ▸ h : _ ∧ _).1
  have zg := valid_nz (Bool.and_eq_true _ _ ▸ k : _ ∧ _).1
  obtain ⟨Y, _, _, _, e⟩ := propS_chain k
  have hC : Cl g.vars g.cls (propS g all).1 := ⟨(propS_spec k).1, by
    rcases e with e | ⟨i, e, _⟩
    · exact e.2
    · omega⟩
  obtain ⟨X, a, _, c, d⟩ := propS_chain h
  have hsub := Chain.sub zf zg hC hs c fun l q => propS_lits k l (hl l ((initT_mem.1 q).resolve_left (by simp)))
  rw [← a] at hsub
  refine ⟨?_, hsub⟩
  rcases d with d | ⟨i, d, hi, h1⟩
  · exact d.1
  · exfalso
    have hcm := getD_mem [] hi
    obtain ⟨D, hD, hDl⟩ := hs _ hcm
    obtain ⟨_, b⟩ := stat_inv1 (zf _ hcm) h1
    refine hC.not_false zg hD fun l q => Decidable.byContradiction fun n => ?_
    have : l ∈ opL (propS f lits).1 (f.cls.getD i []) := mem_opL.2 ⟨(hDl l).1 q, fun m => n (hsub _ m)⟩
    rw [b] at this; simp at this
theorem nodup_sub : ∀ {a b : List Int}, a.Nodup → (∀ x ∈ a, x ∈ b) → a.length ≤ b.length
  | [], b, _, _ => by simp
  | x :: a, b, h, hs => by
    rw [List.nodup_cons] at h
    have hx := hs x (by simp)
    have := nodup_sub (b := b.erase x) h.2 fun y hy => (List.mem_erase_of_ne (show y ≠ x from fun e => h.1 (e ▸ hy))).2 (hs y (List.mem_cons_of_mem _ hy))
    rw [List.length_erase_of_mem hx] at this
    have := List.length_pos_of_mem hx
    simp only [List.length_cons]; omega
/-- The reasons, one by one. -/
theorem propS_reason {f : Cnf} {lits : List Int} (h : (validC f && litsOk f.vars [] lits) = true) {j : Nat} (hj : j < (propS f lits).1.length) :
    (((propS f lits).2.1.getD j 0 = -1) ∧ (propS f lits).1.getD j 0 ∈ lits) ∨ ((propS f lits).1.getD j 0 ∉ lits ∧ ∃ i : Nat, (propS f lits).2.1.getD j 0 = i ∧ i < f.cls.length ∧ statS ((propS f lits).1.take j) (f.cls.getD i []) 0 = (2, (propS f lits).1.getD j 0) ∧ (i : Int) ∉ (propS f lits).2.1.drop (j + 1)) := by
  obtain ⟨X, a, b, c, _⟩ := propS_chain h
  obtain ⟨q1, q2, _⟩ := propS_spec h
  have zf := valid_nz (Bool.and_eq_true _ _ ▸ h : _ ∧ _).1
  have hnd := q1.nodup
  rw [a] at hnd hj ⊢
  rw [b]
  have hmem : ∀ x, x ∈ initT [] lits ↔ x ∈ lits := fun x => by rw [initT_mem]; simp
  generalize initT [] lits = T0 at *
  rcases Nat.lt_or_ge j T0.length with h1 | h1
  · refine .inl ⟨?_, ?_⟩
    · simp only [List.getD_eq_getElem?_getD]
      rw [List.getElem?_append_left (by simpa using h1)]
      simp [h1]
    · rw [← hmem]
      simp only [List.getD_eq_getElem?_getD]
      rw [List.getElem?_append_left h1, List.getElem?_eq_getElem h1]
      exact List.getElem_mem h1
  · right
    obtain ⟨m, rfl⟩ : ∃ m, j = T0.length + m := ⟨j - T0.length, by omega⟩
    simp only [List.length_append, List.length_map] at hj
    have hm : m < X.length := by omega
    obtain ⟨⟨x, i⟩, hx⟩ : ∃ p, X[m]? = some p := ⟨_, List.getElem?_eq_getElem hm⟩
    have e1 : (T0 ++ X.map (·.1)).getD (T0.length + m) 0 = x := by
      simp only [List.getD_eq_getElem?_getD]
      rw [List.getElem?_append_right (by omega), Nat.add_sub_cancel_left, List.getElem?_map, hx]; rfl
    have e2 : (T0.map (fun _ => (-1 : Int)) ++ X.map (fun p => (p.2 : Int))).getD (T0.length + m) 0 = i := by
      simp only [List.getD_eq_getElem?_getD]
      rw [List.getElem?_append_right (by simp), List.length_map, Nat.add_sub_cancel_left, List.getElem?_map, hx]; rfl
    have e3 : (T0 ++ X.map (·.1)).take (T0.length + m) = T0 ++ (X.take m).map (·.1) := by
      rw [List.take_append, List.take_of_length_le (by omega), Nat.add_sub_cancel_left, List.map_take]
    rw [e1, e2, e3]
    obtain ⟨g1, g2⟩ := c.at hx
    refine ⟨fun hl => ?_, i, rfl, g1, g2, fun hd => ?_⟩
    · have h2 := (hmem x).2 hl
      have h3 : x ∈ X.map (·.1) := List.mem_map.2 ⟨_, List.mem_of_getElem? hx, rfl⟩
      exact (List.nodup_append.1 hnd).2.2 x h2 x h3 rfl
    · rw [show T0.length + m + 1 = (T0.map fun _ => (-1 : Int)).length + (m + 1) by simp; omega, List.drop_append, List.drop_of_length_le (by simp), List.nil_append, Nat.add_sub_cancel_left] at hd
      obtain ⟨n, hn, e⟩ := List.getElem_of_mem hd
      simp only [List.length_drop, List.length_map] at hn
      rw [List.getElem_drop, List.getElem_map] at e
      obtain ⟨⟨y, i'⟩, hy⟩ : ∃ p, X[m + 1 + n]? = some p := ⟨_, List.getElem?_eq_getElem (by omega)⟩
      have hi' : i' = i := by
        have h4 : X[m + 1 + n] = (y, i') := by
          have := List.getElem?_eq_getElem (l := X) (i := m + 1 + n) (by omega)
          rw [this] at hy; exact Option.some.inj hy
        rw [h4] at e; exact Int.ofNat.inj e
      subst hi'
      obtain ⟨_, g4⟩ := c.at hy
      have hcm := zf _ (getD_mem [] g1)
      obtain ⟨s1, _⟩ := stat_inv hcm g4
      obtain ⟨_, s2⟩ := stat_inv hcm g2
      have hxc : x ∈ opL (T0 ++ (X.take m).map (·.1)) (f.cls.getD i' []) := by rw [s2]; simp
      refine satB_false.1 s1 x (mem_opL.1 hxc).1 (List.mem_append_right _ (List.mem_map.2 ⟨(x, i'), ?_, rfl⟩))
      exact List.mem_of_getElem? (i := m) (by rw [List.getElem?_take, if_pos (by omega), hx])
end Go.Proofs.Ytpmjdaiboniagaa
end PartU23

section PartU26
/- UnitpropReasons, evaluated. -/
set_option linter.unusedSimpArgs false
set_option linter.unusedVariables false
set_option maxRecDepth 100000
namespace Go.Proofs.Ytpmjdaiboniagaa
open Go Go.Ab

set_option maxHeartbeats 4000000 in
theorem law7_ac (f : Cnf) (lits : List Int) (h1 : f.cls.length ≤ reachBytes) (h3 : ∀ c ∈ f.cls, c.length ≤ reachBytes) (hv : I64 f.vars) (hll : lits.length ≤ reachBytes) (hl : ∀ l ∈ lits, I64 l) (σ : St) (G : Glob) (R : A → St → Prop) (h : R (db true) σ) : AC Try.prog G 7 [.d (cnfD f), .d (isD lits)] σ R := by
  refine ac_enter mixed Try.func7 rfl Try.ntmps7 (by simp only [go_sem]) fun hbd => ?_
  simp only [List.length_cons, List.length_nil, Nat.reduceAdd, Nat.reduceSub, List.replicate_succ, List.replicate_zero, List.cons_append, List.nil_append]
  simp only [cnfD, go_sem]
  refine ac' (head23_ac _ _ _ ?_)
  simp only [go_sem]
  refine ac' (fine_ac f lits hv h1 h3 hll hl _ _ _ ?_)
  simp only [go_sem, Try.results7]
  refine ⟨fun _ => ret_d hbd h, fun hb => ?_⟩
  obtain ⟨⟨b1, b2, b3, b4⟩, hvv, hok⟩ := fineB_spec (show fineB f lits = true by simpa using hb)
  obtain ⟨hv0, hcl⟩ := validC_spec hvv
  have hls := litsOk_spec (Bool.and_eq_true _ _ ▸ hok : _ ∧ _).2
  refine ac' (propagate_ac f lits hv (by omega) (fun c hc => by have := b4 c hc; omega) hll hl _ _ _ ?_)
  obtain ⟨q1, q2, q3, q4, q5⟩ := propS_spec hok
  have hrs := fun j => propS_reason hok (j := j)
  obtain ⟨⟨T, Rs, c⟩, hr⟩ : ∃ r, propS f lits = r := ⟨_, rfl⟩
  rw [hr] at q1 q2 q3 q4 q5 hrs
  simp only at q1 q2 q3 q4 q5 hrs
  rw [hr]
  have hTl := q1.len hv0.1
  have hD : D.agg [iD f.vars, clsD f.cls] = cnfD f := rfl
  have d1 : decide (f.vars < (T.length : Int)) = false := decide_eq_false (by omega)
  have d2 : ((T.length : Int) != (Rs.length : Int)) = false := by rw [q2]; simp
  simp only [clsD, isD, go_sem, List.length_map, d1, d2, Try.results7]
  refine aw_loop (fun m fr st => ∃ k : Nat, k ≤ T.length ∧ m = T.length - k ∧ fr = [.any, .d (isD lits), .ref σ.length 0, .any, .any, db true, .d (isD T), .d (isD Rs), .any, dn k, .any, .any, .any, .any, .any, .any, .any, .any, .any, .any, .any, .any, .any, .any, .any, .any, .any, .any, .any, .any, .any, .any, .any, .any, .any, .any, .any, .any, .any, .any, .any, .any, .any, .any, .any, .any, .any, .any, .any, .any, .any, .any, .any, .any, .any, .any, .any, .any, .any, .any, .any, .any, .any, .any, .any, .any, .any, .any, .any, .any, .any, .any, .any, .any, .any, .any, .any, .any, .any, .any, .any, .any, .any, .any, .any, .any, .any, .any, .any, .any, .any, .any, .any, .any, .any, .any, .any, .any, .any, .any, .any, .any, .any, .any, .any] ∧ st = σ ++ [some (.cells [.d (iD f.vars), .d (clsD f.cls)])]) T.length _
    (Wk.mask [1, 2, 5, 6, 7, 9] ⟨0, by omega, rfl, rfl, rfl⟩) ?_
  rintro m fr st ⟨k, hk, hm, rfl, rfl⟩
  rcases Nat.lt_or_ge k T.length with hlt | hge
  · have hd : decide ((k : Int) < (T.length : Int)) = true := decide_eq_true (by omega)
    have w2 := wrapS k (by omega)
    have e1 : List.getD (List.map iD T) k default = iD (T.getD k 0) := getD_mapD hlt
    have e2 : List.getD (List.map iD Rs) k default = iD (Rs.getD k 0) := getD_mapD (by omega)
    have hrk := hrs k hlt
    have next : ∀ (fr : Fr), maskN [1, 2, 5, 6, 7, 9] 0 fr = [.any, .d (isD lits), .ref σ.length 0, .any, .any, db true, .d (isD T), .d (isD Rs), .any, dn (k + 1), .any, .any, .any, .any, .any, .any, .any, .any, .any, .any, .any, .any, .any, .any, .any, .any, .any, .any, .any, .any, .any, .any, .any, .any, .any, .any, .any, .any, .any, .any, .any, .any, .any, .any, .any, .any, .any, .any, .any, .any, .any, .any, .any, .any, .any, .any, .any, .any, .any, .any, .any, .any, .any, .any, .any, .any, .any, .any, .any, .any, .any, .any, .any, .any, .any, .any, .any, .any, .any, .any, .any, .any, .any, .any, .any, .any, .any, .any, .any, .any, .any, .any, .any, .any, .any, .any, .any, .any, .any, .any, .any, .any, .any, .any, .any] → Wk G σ.length (fun g s => ∃ m', m' < m ∧ ∃ k : Nat, k ≤ T.length ∧ m' = T.length - k ∧ g = [.any, .d (isD lits), .ref σ.length 0, .any, .any, db true, .d (isD T), .d (isD Rs), .any, dn k, .any, .any, .any, .any, .any, .any, .any, .any, .any, .any, .any, .any, .any, .any, .any, .any, .any, .any, .any, .any, .any, .any, .any, .any, .any, .any, .any, .any, .any, .any, .any, .any, .any, .any, .any, .any, .any, .any, .any, .any, .any, .any, .any, .any, .any, .any, .any, .any, .any, .any, .any, .any, .any, .any, .any, .any, .any, .any, .any, .any, .any, .any, .any, .any, .any, .any, .any, .any, .any, .any, .any, .any, .any, .any, .any, .any, .any, .any, .any, .any, .any, .any, .any, .any, .any, .any, .any, .any, .any, .any, .any, .any, .any, .any, .any] ∧ s = σ ++ [some (.cells [.d (iD f.vars), .d (clsD f.cls)])]) fr (σ ++ [some (.cells [.d (iD f.vars), .d (clsD f.cls)])]) := fun fr hfr =>
      Wk.mask [1, 2, 5, 6, 7, 9] ⟨T.length - (k + 1), by omega, k + 1, hlt, rfl, hfr, rfl⟩
    rcases hrk with ⟨hr1, hr2⟩ | ⟨hr2, i, hr1, hi, hst, htw⟩
    · rw [hr1] at e2
      generalize T.getD k 0 = x at e1 hr2
      have d3 : ((-1 : Int) == -1) = true := rfl
      have d4 : decide ((-1 : Int) < -1) = false := rfl
      have d5 : decide ((f.cls.length : Int) ≤ (-1 : Int)) = false := decide_eq_false (by omega)
      simp only [isD, clsD, go_sem, List.length_map, hd, e1, e2, w2, Try.results7]
      refine ⟨⟨by omega, by omega⟩, ac' (has23_ac lits x hll _ _ _ ?_)⟩
      rw [decide_eq_true hr2]
      simp only [isD, clsD, go_sem, List.length_map, hd, e1, e2, w2, d3, d4, d5, Try.results7]
      exact ⟨⟨by omega, by omega⟩, next _ rfl⟩
    · rw [hr1] at e2
      generalize T.getD k 0 = x at e1 hr2 hst
      simp only [isD, clsD, go_sem, List.length_map, hd, e1, e2, w2, Try.results7]
      refine ⟨⟨by omega, by omega⟩, ac' (has23_ac lits x hll _ _ _ ?_)⟩
      rw [decide_eq_false hr2]
      have d3 : ((i : Int) == -1) = false := by rw [beq_eq_false_iff_ne]; omega
      have d4 : decide ((i : Int) < -1) = false := decide_eq_false (by omega)
      have d5 : decide ((f.cls.length : Int) ≤ (i : Int)) = false := decide_eq_false (by omega)
      have e3 := isD_getD hi
      have e4 : List.take k (List.map iD T) = List.map iD (T.take k) := List.map_take.symm
      have e5 : List.drop (k + 1) (List.take Rs.length (List.map iD Rs)) = List.map iD (Rs.drop (k + 1)) := by rw [List.take_of_length_le (by simp), List.map_drop]
      have hcm := getD_mem [] hi
      have hck := hcl _ hcm
      have hcb := b4 _ hcm
      generalize f.cls.getD i [] = C at e3 hst hck hcb
      simp only [isD, clsD, go_sem, List.length_map, hd, e1, e2, e3, e4, e5, w2, d3, d4, d5, Try.results7]
      refine ⟨⟨by omega, by omega⟩, ⟨by omega, by omega⟩, ⟨by omega, by omega, by omega⟩, ac' (status_ac C (T.take k) (by simp only [reachBytes]; omega) (by rw [List.length_take]; simp only [reachBytes]; omega) (fun l hl => by have := hck l hl; omega) _ _ _ ?_)⟩
      rw [hst]
      simp only [isD, clsD, go_sem, List.length_map, hd, e1, e2, e3, e4, e5, w2, d3, d4, d5, Try.results7]
      refine ⟨⟨by omega, by omega, by omega⟩, ac' (has23_ac _ i (by rw [List.length_drop]; simp only [reachBytes]; omega) _ _ _ ?_)⟩
      rw [decide_eq_false htw]
      simp only [isD, clsD, go_sem, List.length_map, hd, e1, e2, e3, e4, e5, w2, d3, d4, d5, Try.results7]
      exact ⟨fun _ => ⟨rfl, by omega, by omega⟩, fun q => absurd q (by simp), fun _ => next _ rfl⟩
  · have hd : decide ((k : Int) < (T.length : Int)) = false := decide_eq_false (by omega)
    simp only [isD, clsD, go_sem, List.length_map, hd, Try.results7]
    exact ret_d hbd h
end Go.Proofs.Ytpmjdaiboniagaa
end PartU26

section PartR7
/- UnitpropReasons: the law answers true for every input, and leaves its input as it was. No condition. -/
set_option maxRecDepth 100000
set_option linter.unusedSimpArgs false
set_option linter.unusedVariables false
namespace Go.Proofs.Ytpmjdaiboniagaa
open Go Go.Ab Go.RowKit Go.ChangeShapes Go.WideShapes
theorem liftedUnitpropReasons (os : Os) (started : os.Started) (H : Type) (enc : TypeId × Value → H) :
    ReturnsInHanded {} Try.checked os 7 .any (Rows.unitpropReasonsSpec.pre6 enc Try.prog Try.f7 [] false) (Rows.unitpropReasonsSpec.post enc Try.prog Try.f7 false true false false) := by
  refine returns_plain (C := Try.checked) own started (by kernel_rfl) Try.func7 (ChangeSpec.witness6 (enc := enc) (C := Try.checked) false ⟨#[], #[.agg #[.int .i64 0, .slice none 0 0], .slice none 0 0], []⟩ 8 (by kernel_rfl) (by kernel_rfl) (by kernel_rfl) (by kernel_rfl)) ?_
  intro W base args ds gs before hval hW hz
  refine calls_true (G := fun _ => none) (S := [3, 25, 22, 24]) (tb := 4) hW hval (by kernel_rfl) (by rw [Try.params7]; kernel_rfl) (by kernel_rfl) (by rw [Try.params7]; kernel_rfl) rfl (by kernel_rfl) Try.underlying4 (fun ds hds => ?_) (fun g x h => by cases h) hz (fun xs hx => ?_)
  · rw [Try.params7] at hds
    match ds, hds with
    | [d0, d1], _ => rfl
  · skip
    rw [Try.params7] at hx
    generalize args.toList = vs at hx
    cases hx with
    | cons h0 _ hx =>
      obtain ⟨n0, h0⟩ := h0
      obtain ⟨x0, rfl, k0⟩ := dty_cnf h0
      cases hx with
      | cons h1 _ hx =>
        obtain ⟨n1, h1⟩ := h1
        obtain ⟨x1, rfl, k1⟩ := dty_ints h1
        cases hx
        exact law7_ac x0 x1 k0.2.1 (fun c hc => (k0.2.2 c hc).1) k0.1 k1.1 k1.2 [] _ _ rfl
theorem closedUnitpropReasons : joinedFacts Try.prog 7 Try.f7 Rows.unitpropReasonsSpec Rows.unitpropReasonsRow = true := by
  rw [joinedFacts, mayEnter, liftsFinal, makes]
  kernel_rfl
theorem unitpropReasons_holds : Rows.UnitpropReasonsSaid :=
  OpenClaim.holds_of_wide 7 Try.f7 rfl rfl rfl rfl rfl rfl rfl ⟨rfl, rfl, rfl, rfl, rfl⟩ rfl rfl rfl rfl rfl (by kernel_rfl) Try.func7 closedUnitpropReasons
    (of_decide_eq_true (by kernel_rfl)) (by unfold Func.isWrapper; first | (rw [if_pos (by decide +kernel)]; kernel_rfl) | (rw [if_neg (by decide +kernel)]; exact ⟨rfl, rfl⟩))
    (fun os started H enc _ => liftedUnitpropReasons os started H enc)
#print axioms unitpropReasons_holds
end Go.Proofs.Ytpmjdaiboniagaa
end PartR7
