import Derived.Test.YtpmjdaiboniagaaMO6
import Derived.Test.YtpmjdaiboniagaaMO5
import Derived.Test.YtpmjdaiboniagaaRA
import Derived.Test.YtpmjdaiboniagaaMO1

section PartU23
/- Unit propagation, plain: closed, order, monotonic, reasons. -/
set_option linter.unusedSimpArgs false
set_option linter.unusedVariables false
namespace Go.Proofs.Ytpmjdaiboniagaa
open Go Go.Ab

theorem valid_nz {f : Cnf} (h : validC f = true) : ∀ c ∈ f.cls, ∀ l ∈ c, l ≠ 0 := fun c hc l hl => ((validC_spec h).2 c hc l hl).1
/-- What Propagate answers, as a chain. -/
theorem propS_chain {f : Cnf} {lits : List Int} (h : (validC f && litsOk f.vars [] lits) = true) : ∃ X : List (Int × Nat), (propS f lits).1 = initT [] lits ++ X.map (·.1) ∧ (propS f lits).2.1 = (initT [] lits).map (fun _ => -1) ++ X.map (fun p => (p.2 : Int)) ∧ Chain f.cls (initT [] lits) X ∧
    (((propS f lits).2.2 = -1 ∧ ∀ c ∈ f.cls, (statS (propS f lits).1 c 0).1 = 0) ∨ ∃ i : Nat, (propS f lits).2.2 = i ∧ i < f.cls.length ∧ (statS (propS f lits).1 (f.cls.getD i []) 0).1 = 1) := by
  obtain ⟨q1, q2, _⟩ := propS_spec h
  have hv := (validC_spec (Bool.and_eq_true _ _ ▸ h : _ ∧ _).1).1
  have hl := q1.len hv.1
  rw [propS, if_pos h] at q1 hl ⊢
  obtain ⟨X, a, b, c, d⟩ := run_chain (cls := f.cls) (k := (f.vars + 1).toNat) (T := initT [] lits) (Rs := (initT [] lits).map fun _ => -1)
  refine ⟨X, a, b, c, ?_⟩
  rw [← a] at d
  refine d.imp (fun d => ⟨d.1, findS_zero (d.2.resolve_left fun e => ?_)⟩) id
  rw [a, List.length_append, List.length_map] at hl
  omega
theorem propS_lits {f : Cnf} {lits : List Int} (h : (validC f && litsOk f.vars [] lits) = true) : ∀ l ∈ lits, l ∈ (propS f lits).1 := fun l hl => by
  obtain ⟨X, a, _⟩ := propS_chain h
  rw [a]; exact List.mem_append_left _ (initT_mem.2 (.inr hl))
theorem propS_mono {f g : Cnf} {lits all : List Int} (h : (validC f && litsOk f.vars [] lits) = true) (k : (validC g && litsOk g.vars [] all) = true) (hl : ∀ l ∈ lits, l ∈ all) (hs : SubC f.cls g.cls) (hc : (propS g all).2.2 = -1) :
    (propS f lits).2.2 = -1 ∧ ∀ l ∈ (propS f lits).1, l ∈ (propS g all).1 := by
  have zf := valid_nz (Bool.and_eq_true _ _ ▸ h : _ ∧ _).1
  have zg := valid_nz (Bool.and_eq_true _ _ ▸ k : _ ∧ _).1
  obtain ⟨Y, _, _, _, e⟩ := propS_chain k
  have hC : Cl g.vars g.cls (propS g all).1 := ⟨(propS_spec k).1, by
    rcases e with e | ⟨i, e, _⟩
    · exact e.2
    · omega⟩
  obtain ⟨X, a, _, c, d⟩ := propS_chain h
  have hsub := Chain.sub zf zg hC hs c fun l q => propS_lits k l (hl l ((initT_mem.1 q).resolve_left (by simp)))
  rw [← a] at hsub
  refine ⟨?_, hsub⟩
  rcases d with d | ⟨i, d, hi, h1⟩
  · exact d.1
  · exfalso
    have hcm := getD_mem [] hi
    obtain ⟨D, hD, hDl⟩ := hs _ hcm
    obtain ⟨_, b⟩ := stat_inv1 (zf _ hcm) h1
    refine hC.not_false zg hD fun l q => Decidable.byContradiction fun n => ?_
    have : l ∈ opL (propS f lits).1 (f.cls.getD i []) := mem_opL.2 ⟨(hDl l).1 q, fun m => n (hsub _ m)⟩
    rw [b] at this; simp at this
theorem nodup_sub : ∀ {a b : List Int}, a.Nodup → (∀ x ∈ a, x ∈ b) → a.length ≤ b.length
  | [], b, _, _ => by simp
  | x :: a, b, h, hs => by
    rw [List.nodup_cons] at h
    have hx := hs x (by simp)
    have := nodup_sub (b := b.erase x) h.2 fun y hy => (List.mem_erase_of_ne (show y ≠ x from fun e => h.1 (e ▸ hy))).2 (hs y (List.mem_cons_of_mem _ hy))
    rw [List.length_erase_of_mem hx] at this
    have := List.length_pos_of_mem hx
    simp only [List.length_cons]; omega
/-- The reasons, one by one. -/
theorem propS_reason {f : Cnf} {lits : List Int} (h : (validC f && litsOk f.vars [] lits) = true) {j : Nat} (hj : j < (propS f lits).1.length) :
    (((propS f lits).2.1.getD j 0 = -1) ∧ (propS f lits).1.getD j 0 ∈ lits) ∨ ((propS f lits).1.getD j 0 ∉ lits ∧ ∃ i : Nat, (propS f lits).2.1.getD j 0 = i ∧ i < f.cls.length ∧ statS ((propS f lits).1.take j) (f.cls.getD i []) 0 = (2, (propS f lits).1.getD j 0) ∧ (i : Int) ∉ (propS f lits).2.1.drop (j + 1)) := by
  obtain ⟨X, a, b, c, _⟩ := propS_chain h
  obtain ⟨q1, q2, _⟩ := propS_spec h
  have zf := valid_nz (Bool.and_eq_true _ _ ▸ h : _ ∧ _).1
  have hnd := q1.nodup
  rw [a] at hnd hj ⊢
  rw [b]
  have hmem : ∀ x, x ∈ initT [] lits ↔ x ∈ lits := fun x => by rw [initT_mem]; simp
  generalize initT [] lits = T0 at *
  rcases Nat.lt_or_ge j T0.length with h1 | h1
  · refine .inl ⟨?_, ?_⟩
    · simp only [List.getD_eq_getElem?_getD]
      rw [List.getElem?_append_left (by simpa using h1)]
      simp [h1]
    · rw [← hmem]
      simp only [List.getD_eq_getElem?_getD]
      rw [List.getElem?_append_left h1, List.getElem?_eq_getElem h1]
      exact List.getElem_mem h1
  · right
    obtain ⟨m, rfl⟩ : ∃ m, j = T0.length + m := ⟨j - T0.length, by omega⟩
    simp only [List.length_append, List.length_map] at hj
    have hm : m < X.length := by omega
    obtain ⟨⟨x, i⟩, hx⟩ : ∃ p, X[m]? = some p := ⟨_, List.getElem?_eq_getElem hm⟩
    have e1 : (T0 ++ X.map (·.1)).getD (T0.length + m) 0 = x := by
      simp only [List.getD_eq_getElem?_getD]
      rw [List.getElem?_append_right (by omega), Nat.add_sub_cancel_left, List.getElem?_map, hx]; rfl
    have e2 : (T0.map (fun _ => (-1 : Int)) ++ X.map (fun p => (p.2 : Int))).getD (T0.length + m) 0 = i := by
      simp only [List.getD_eq_getElem?_getD]
      rw [List.getElem?_append_right (by simp), List.length_map, Nat.add_sub_cancel_left, List.getElem?_map, hx]; rfl
    have e3 : (T0 ++ X.map (·.1)).take (T0.length + m) = T0 ++ (X.take m).map (·.1) := by
      rw [List.take_append, List.take_of_length_le (by omega), Nat.add_sub_cancel_left, List.map_take]
    rw [e1, e2, e3]
    obtain ⟨g1, g2⟩ := c.at hx
    refine ⟨fun hl => ?_, i, rfl, g1, g2, fun hd => ?_⟩
    · have h2 := (hmem x).2 hl
      have h3 : x ∈ X.map (·.1) := List.mem_map.2 ⟨_, List.mem_of_getElem? hx, rfl⟩
      exact (List.nodup_append.1 hnd).2.2 x h2 x h3 rfl
    · rw [show T0.length + m + 1 = (T0.map fun _ => (-1 : Int)).length + (m + 1) by simp; omega, List.drop_append, List.drop_of_length_le (by simp), List.nil_append, Nat.add_sub_cancel_left] at hd
      obtain ⟨n, hn, e⟩ := List.getElem_of_mem hd
      simp only [List.length_drop, List.length_map] at hn
      rw [List.getElem_drop, List.getElem_map] at e
      obtain ⟨⟨y, i'⟩, hy⟩ : ∃ p, X[m + 1 + n]? = some p := ⟨_, List.getElem?_eq_getElem (by omega)⟩
      have hi' : i' = i := by
        have h4 : X[m + 1 + n] = (y, i') := by
          have := List.getElem?_eq_getElem (l := X) (i := m + 1 + n) (by omega)
          rw [this] at hy; exact Option.some.inj hy
        rw [h4] at e; exact Int.ofNat.inj e
      subst hi'
      obtain ⟨_, g4⟩ := c.at hy
      have hcm := zf _ (getD_mem [] g1)
      obtain ⟨s1, _⟩ := stat_inv hcm g4
      obtain ⟨_, s2⟩ := stat_inv hcm g2
      have hxc : x ∈ opL (T0 ++ (X.take m).map (·.1)) (f.cls.getD i' []) := by rw [s2]; simp
      refine satB_false.1 s1 x (mem_opL.1 hxc).1 (List.mem_append_right _ (List.mem_map.2 ⟨(x, i'), ?_, rfl⟩))
      exact List.mem_of_getElem? (i := m) (by rw [List.getElem?_take, if_pos (by omega), hx])
end Go.Proofs.Ytpmjdaiboniagaa
end PartU23

section PartU28
/- The law package's turned; UnitpropOrder, plain. -/
set_option linter.unusedSimpArgs false
set_option linter.unusedVariables false
set_option maxRecDepth 100000
namespace Go.Proofs.Ytpmjdaiboniagaa
open Go Go.Ab

def trnC (f : Cnf) (b i : Nat) : List Int := (f.cls.getD ((i + b) % f.cls.length) []).reverse
/-- A formula with its clauses and their literals in another order. -/
def trnF (f : Cnf) (b : Nat) : Cnf := ⟨f.vars, (List.range f.cls.length).map (trnC f b)⟩
theorem rng_take {n j : Nat} (h : j < n) (g : Nat → List Int) : ((List.range n).take (j + 1)).map g = ((List.range n).take j).map g ++ [g j] := by
  rw [List.take_succ_eq_append_getElem (by simpa using h), List.map_append]; simp
set_option maxHeartbeats 4000000 in
theorem turned23_ac (f : Cnf) (b : Nat) (hb : b ≤ 255) (h1 : f.cls.length ≤ 1000000) (h3 : ∀ c ∈ f.cls, c.length ≤ 1000000) (hv : I64 f.vars) (σ : St) (G : Glob) (R : A → St → Prop) (h : R (.d (cnfD (trnF f b))) σ) : AC Try.prog G 33 [.d (cnfD f), .d (.int .u8 b)] σ R := by
  refine ac_enterC [12, 13] mixed Try.func33 rfl Try.ntmps33 (by simp only [go_sem]) fun hbd => ?_
  simp only [List.length_cons, List.length_nil, Nat.reduceAdd, Nat.reduceSub, List.replicate_succ, List.replicate_zero, List.cons_append, List.nil_append]
  simp only [cnfD, clsD, go_sem, List.length_map]
  refine aw_cut (fun fr st => fr = [.any, .any, .any, .any, .ref σ.length 0, .ref (σ.length + 1) 0, .any, .any, .any, .any, .any, .any, .any, .any, .any, .any, .any, .any, .any, .any, .any, .any, .any, .any, .any, .any, .any, .any, .any, .any, .any, .any, .any, .any, .any, .any, .any, .any, .any, .any, .any, .any, .any, .any, .any, .any, .any, .any, .any, .any, .any, .any, .any] ∧ st = σ ++ [some (.cells [.d (iD 0), .d .nils]), some (.cells [.d (iD f.vars), .d (clsD (trnF f b).cls)])]) ?_ ?_
  · simp only [go_sem]
    refine aw_loop (fun m fr st => ∃ j : Nat, j ≤ f.cls.length ∧ m = f.cls.length - j ∧ fr = [.any, .d (.int .u8 b), .ref σ.length 0, .any, .ref (σ.length + 1) 0, .ref (σ.length + 2) 0, dn f.cls.length, dn j, .any, .any, .any, .any, .any, .any, .any, .any, .any, .any, .any, .any, .any, .any, .any, .any, .any, .any, .any, .any, .any, .any, .any, .any, .any, .any, .any, .any, .any, .any, .any, .any, .any, .any, .any, .any, .any, .any, .any, .any, .any, .any, .any, .any, .any] ∧
      st = σ ++ [some (.cells [.d (iD f.vars), .d (.sl 1 (f.cls.map isD))]), some (.cells [.d (iD 0), .d .nils]), some (.cells [.d (iD f.vars), .rs (σ.length + 3) 1 0 j (some 25)]), some (.cells (((List.range f.cls.length).take j).map (fun i => A.d (isD (trnC f b i)))))]) f.cls.length _
      ⟨_, _, (Weak.mask [1, 2, 4, 5, 6, 7]).trans (Weak.emptyIn (σ := σ) 2 1 1 (some 25) rfl rfl), 0, by omega, rfl, rfl, rfl⟩ ?_
    rintro m fr st ⟨j, hj, hm, rfl, rfl⟩
    rcases Nat.lt_or_ge j f.cls.length with hlt | hge
    · have hd : decide ((j : Int) < (f.cls.length : Int)) = true := decide_eq_true (by omega)
      have w2 := wrapS j (by omega)
      have w4 : IntKind.i64.wrap (b : Int) = (b : Int) := wrap64_id _ (by omega) (by omega)
      have w5 : IntKind.i64.wrap ((j : Int) + (b : Int)) = ((j + b : Nat) : Int) := by rw [wrap64_id _ (by omega) (by omega)]; omega
      have w6 : ((j + b : Nat) : Int).tmod (f.cls.length : Int) = (((j + b) % f.cls.length : Nat) : Int) := rfl
      have hmod : (j + b) % f.cls.length < f.cls.length := Nat.mod_lt _ (by omega)
      have e1 := isD_getD hmod
      have hcj := h3 _ (getD_mem [] hmod)
      have htk : ((List.range f.cls.length).take (j + 1)).map (fun i => A.d (isD (trnC f b i))) = ((List.range f.cls.length).take j).map (fun i => A.d (isD (trnC f b i))) ++ [A.d (isD (trnC f b j))] := by
        rw [List.take_succ_eq_append_getElem (by simpa using hlt), List.map_append]; simp
      have hcc : (f.cls.getD ((j + b) % f.cls.length) []).reverse = trnC f b j := rfl
      generalize f.cls.getD ((j + b) % f.cls.length) [] = c at e1 hcj hcc
      generalize (j + b) % f.cls.length = q at e1 w6 hmod
      have w7 : IntKind.i64.wrap ((q : Nat) : Int) = (q : Int) := wrap64_id _ (by omega) (by omega)
      have w1 : IntKind.i64.wrap ((c.length : Int) - 1) = (c.length : Int) - 1 := wrap64_id _ (by omega) (by omega)
      simp only [isD, go_sem, List.length_map, hd, w1, w2, w4, w5, w6, w7, e1]
      refine ⟨by omega, ⟨by omega, by omega⟩, aw_cut (fun fr st => fr = [.any, .d (.int .u8 b), .ref σ.length 0, .any, .ref (σ.length + 1) 0, .ref (σ.length + 2) 0, dn f.cls.length, dn j, .any, .d (isD c.reverse), .any, .any, .any, .any, .any, .any, .any, .any, .any, .any, .any, .any, .any, .any, .any, .any, .any, .any, .any, .any, .any, .any, .any, .any, .any, .any, .any, .any, .any, .any, .any, .any, .any, .any, .any, .any, .any, .any, .any, .any, .any, .any, .any] ∧
        st = σ ++ [some (.cells [.d (iD f.vars), .d (.sl 1 (f.cls.map isD))]), some (.cells [.d (iD 0), .d .nils]), some (.cells [.d (iD f.vars), .rs (σ.length + 3) 1 0 j (some 25)]), some (.cells (((List.range f.cls.length).take j).map (fun i => A.d (isD (trnC f b i)))))]) ?_ ?_⟩
      · simp only [go_sem]
        refine aw_loop (fun m fr st => ∃ k : Nat, k ≤ c.length ∧ m = c.length - k ∧ fr = [.any, .d (.int .u8 b), .ref σ.length 0, .any, .ref (σ.length + 1) 0, .ref (σ.length + 2) 0, dn f.cls.length, dn j, .d (.sl 1 (c.map iD)), .rs (σ.length + 4) 1 0 k (some 3), di ((c.length : Int) - 1 - k), .any, .any, .any, .any, .any, .any, .any, .any, .any, .any, .any, .any, .any, .any, .any, .any, .any, .any, .any, .any, .any, .any, .any, .any, .any, .any, .any, .any, .any, .any, .any, .any, .any, .any, .any, .any, .any, .any, .any, .any, .any, .any] ∧
          st = σ ++ [some (.cells [.d (iD f.vars), .d (.sl 1 (f.cls.map isD))]), some (.cells [.d (iD 0), .d .nils]), some (.cells [.d (iD f.vars), .rs (σ.length + 3) 1 0 j (some 25)]), some (.cells (((List.range f.cls.length).take j).map (fun i => A.d (isD (trnC f b i))))), ints (c.reverse.take k)]) c.length _
          ⟨_, _, (Weak.mask [1, 2, 4, 5, 6, 7, 8, 9, 10]).trans (Weak.empty 9 1 (some 3) rfl), 0, by omega, rfl, by simp [maskN, w1], by simp [ints, isD]⟩ ?_
        rintro m fr st ⟨k, hk, hm, rfl, rfl⟩
        rcases Nat.lt_or_ge k c.length with klt | kge
        · have kd : decide ((0 : Int) ≤ (c.length : Int) - 1 - k) = true := decide_eq_true (by omega)
          have hn : ((c.length : Int) - 1 - k) = ((c.length - 1 - k : Nat) : Int) := by omega
          have e2 : List.getD (List.map iD c) (c.length - 1 - k) default = iD (c.getD (c.length - 1 - k) 0) := getD_mapD (by omega)
          have w3 : IntKind.i64.wrap (((c.length - 1 - k : Nat) : Int) - 1) = (c.length : Int) - 1 - ((k + 1 : Nat) : Int) := by rw [wrap64_id _ (by omega) (by omega)]; omega
          have hrev : c.reverse.getD k 0 = c.getD (c.length - 1 - k) 0 := by
            rw [List.getD_eq_getElem?_getD, List.getElem?_reverse klt, List.getD_eq_getElem?_getD]
          rw [hn] at kd ⊢
          simp only [go_sem, List.length_map, kd, e2, w3]
          refine ⟨⟨by omega, by omega⟩, ⟨by rw [List.length_take, List.length_reverse]; omega, by simp only [maxLen]; omega, by omega⟩, ?_⟩
          refine Wk.keep [1, 2, 4, 5, 6, 7, 8, 9, 10] [0, 1, 2, 3, 6] (by decide) (Nat.le_refl _) hbd ⟨c.length - (k + 1), by omega, k + 1, klt, rfl, ?_, ?_⟩
          · simp only [go_sem]
          · rw [take_snoc 0 (by rw [List.length_reverse]; exact klt), hrev]
            simp only [go_sem, List.map_append, List.map_cons, List.map_nil, ints]
        · have kd : decide ((0 : Int) ≤ (c.length : Int) - 1 - k) = false := decide_eq_false (by omega)
          have ktk : c.reverse.take k = c.reverse := List.take_of_length_le (by rw [List.length_reverse]; exact kge)
          simp only [go_sem, kd, ktk]
          rw [show k = c.length by omega]
          refine Wk.pre [1, 2, 4, 5, 6, 7, 9] ?_
          simp only [go_sem]
          refine Wk.frz 4 1 0 (c.reverse.map iD) rfl (lies_ints _) ?_
          simp only [go_sem, List.length_map, List.length_reverse]
          exact Wk.keep [1, 2, 4, 5, 6, 7, 9] [0, 1, 2, 3] (by decide) (Nat.le_refl _) hbd ⟨by simp only [go_sem]; rfl, by simp only [go_sem]⟩
      · rintro fr st ⟨rfl, rfl⟩
        simp only [isD, go_sem, List.length_map, w2]
        refine ⟨⟨by rw [List.length_take, List.length_range]; omega, by simp only [maxLen]; omega, by omega⟩, ?_⟩
        refine Wk.keep [1, 2, 4, 5, 6, 7] [0, 1, 2, 5] (by decide) (Nat.le_refl _) hbd ⟨f.cls.length - (j + 1), by omega, j + 1, hlt, rfl, by simp only [go_sem], ?_⟩
        simp only [isD] at htk
        rw [htk, ← hcc]
        simp only [go_sem, renL_mapd σ.length _ (fun i => D.sl 1 (List.map iD (trnC f b i)))]
    · have hd : decide ((j : Int) < (f.cls.length : Int)) = false := decide_eq_false (by omega)
      have htk : (List.range f.cls.length).take j = List.range f.cls.length := List.take_of_length_le (by simpa using hge)
      simp only [go_sem, List.length_map, hd, htk]
      rw [show j = f.cls.length by omega]
      refine Wk.pre [4, 5] ?_
      simp only [go_sem]
      have hord : (List.range f.cls.length).map (fun i => A.d (isD (trnC f b i))) = ((List.range f.cls.length).map (trnC f b)).map fun x => A.d (isD x) := by simp
      rw [hord]
      refine ⟨_, _, (Weak.freezeIn (σ := σ) 3 2 1 0 (((List.range f.cls.length).map (trnC f b)).map isD) rfl (lies_cls _) rfl (by decide)).trans (Weak.keep (σ := σ) [1, 2] (by decide) (Nat.le_refl _) hbd), ?_, ?_⟩
      · simp only [go_sem]
      · simp only [go_sem, List.length_map, List.length_range]
        rfl
  · rintro fr st ⟨rfl, rfl⟩
    simp only [go_sem, Try.results33]
    exact ret_d hbd h
theorem trnF_mem {f : Cnf} {b : Nat} {d : List Int} : d ∈ (trnF f b).cls ↔ ∃ i, i < f.cls.length ∧ trnC f b i = d := by
  simp [trnF]
theorem trn_sub (f : Cnf) (b : Nat) : SubC (trnF f b).cls f.cls := fun c hc => by
  obtain ⟨i, hi, rfl⟩ := trnF_mem.1 hc
  exact ⟨_, getD_mem [] (Nat.mod_lt (i + b) (by omega)), fun l => by rw [trnC, List.mem_reverse]⟩
theorem sub_trn (f : Cnf) (b : Nat) : SubC f.cls (trnF f b).cls := fun c hc => by
  obtain ⟨q, hq, rfl⟩ := List.getElem_of_mem hc
  refine ⟨trnC f b ((q + (f.cls.length - b % f.cls.length)) % f.cls.length), trnF_mem.2 ⟨_, Nat.mod_lt _ (by omega), rfl⟩, fun l => ?_⟩
  have hb := Nat.mod_lt b (show f.cls.length > 0 by omega)
  have e : ((q + (f.cls.length - b % f.cls.length)) % f.cls.length + b) % f.cls.length = q := by
    rw [Nat.mod_add_mod, ← Nat.add_mod_mod, show q + (f.cls.length - b % f.cls.length) + b % f.cls.length = q + f.cls.length by omega, Nat.add_mod_right, Nat.mod_eq_of_lt hq]
  rw [trnC, List.mem_reverse, e, List.getD_eq_getElem?_getD, List.getElem?_eq_getElem hq]; rfl
theorem trn_valid {f : Cnf} (b : Nat) (h : validC f = true) : validC (trnF f b) = true := by
  have hl : (trnF f b).cls.length = f.cls.length := by simp [trnF]
  unfold validC at h ⊢
  rw [Bool.and_eq_true] at h ⊢
  rw [hl]
  refine ⟨h.1, List.all_eq_true.2 fun c hc => ?_⟩
  obtain ⟨i, hi, rfl⟩ := trnF_mem.1 hc
  have := List.all_eq_true.1 h.2 _ (getD_mem [] (Nat.mod_lt (i + b) (show f.cls.length > 0 by omega)))
  rw [trnC, List.all_reverse]
  exact this
theorem usB_rev {v : Int} {all ls : List Int} (h : usB v all ls = true) : usB v all.reverse ls.reverse = true := by
  unfold usB at h ⊢
  rw [List.all_eq_true] at h ⊢
  intro x hx
  have := h x (List.mem_reverse.1 hx)
  simpa only [List.mem_reverse] using this
set_option maxHeartbeats 4000000 in
theorem law6_ac (f : Cnf) (lits : List Int) (b : Nat) (hb255 : b ≤ 255) (h1 : f.cls.length ≤ reachBytes) (h3 : ∀ c ∈ f.cls, c.length ≤ reachBytes) (hv : I64 f.vars) (hll : lits.length ≤ reachBytes) (hl : ∀ l ∈ lits, I64 l) (σ : St) (G : Glob) (R : A → St → Prop) (h : R (db true) σ) : AC Try.prog G 6 [.d (cnfD f), .d (isD lits), .d (.int .u8 b)] σ R := by
  refine ac_enterC [9] mixed Try.func6 rfl Try.ntmps6 (by simp only [go_sem]) fun hbd => ?_
  simp only [List.length_cons, List.length_nil, Nat.reduceAdd, Nat.reduceSub, List.replicate_succ, List.replicate_zero, List.cons_append, List.nil_append]
  simp only [cnfD, go_sem]
  refine ac' (head23_ac _ _ _ ?_)
  simp only [go_sem]
  refine ac' (fine_ac f lits hv h1 h3 hll hl _ _ _ ?_)
  simp only [go_sem, Try.results6]
  refine ⟨fun _ => ret_d hbd h, fun hb => ?_⟩
  obtain ⟨⟨b1, b2, b3, b4⟩, hvv, hok⟩ := fineB_spec (show fineB f lits = true by simpa using hb)
  have hus : usB f.vars lits lits = true := by
    have : fineB f lits = true := by simpa using hb
    simp only [fineB, Bool.and_eq_true] at this; exact this.2.2
  obtain ⟨hv0, hcl⟩ := validC_spec hvv
  have w1 : IntKind.i64.wrap ((lits.length : Int) - 1) = (lits.length : Int) - 1 := wrap64_id _ (by omega) (by omega)
  simp only [isD, clsD, go_sem, List.length_map, w1]
  refine aw_cut (fun fr st => fr = [.any, .d (isD lits), .d (.int .u8 b), .ref σ.length 0, .any, .any, .any, db true, .d (isD lits.reverse), .any, .any, .any, .any, .any, .any, .any, .any, .any, .any, .any, .any, .any, .any, .any, .any, .any, .any, .any, .any, .any, .any, .any, .any, .any, .any, .any, .any, .any, .any, .any, .any, .any, .any, .any, .any, .any, .any, .any, .any, .any, .any, .any, .any, .any, .any, .any, .any, .any, .any, .any, .any, .any, .any, .any, .any, .any, .any, .any, .any, .any, .any, .any, .any, .any, .any, .any, .any, .any, .any, .any, .any, .any, .any, .any, .any] ∧ st = σ ++ [some (.cells [.d (iD f.vars), .d (clsD f.cls)])]) ?_ ?_
  · simp only [go_sem]
    refine aw_loop (fun m fr st => ∃ k : Nat, k ≤ lits.length ∧ m = lits.length - k ∧ fr = [.any, .d (.sl 1 (lits.map iD)), .d (.int .u8 b), .ref σ.length 0, .any, .any, .any, db true, .rs (σ.length + 1) 1 0 k (some 3), di ((lits.length : Int) - 1 - k), .any, .any, .any, .any, .any, .any, .any, .any, .any, .any, .any, .any, .any, .any, .any, .any, .any, .any, .any, .any, .any, .any, .any, .any, .any, .any, .any, .any, .any, .any, .any, .any, .any, .any, .any, .any, .any, .any, .any, .any, .any, .any, .any, .any, .any, .any, .any, .any, .any, .any, .any, .any, .any, .any, .any, .any, .any, .any, .any, .any, .any, .any, .any, .any, .any, .any, .any, .any, .any, .any, .any, .any, .any, .any, .any] ∧
      st = σ ++ [some (.cells [.d (iD f.vars), .d (.sl 1 (f.cls.map isD))]), ints (lits.reverse.take k)]) lits.length _
      ⟨_, _, (Weak.mask [1, 2, 3, 7, 8, 9]).trans (Weak.empty 8 1 (some 3) rfl), 0, by omega, rfl, by simp [maskN, w1], by simp [ints]⟩ ?_
    rintro m fr st ⟨k, hk, hm, rfl, rfl⟩
    rcases Nat.lt_or_ge k lits.length with klt | kge
    · have kd : decide ((0 : Int) ≤ (lits.length : Int) - 1 - k) = true := decide_eq_true (by omega)
      have hn : ((lits.length : Int) - 1 - k) = ((lits.length - 1 - k : Nat) : Int) := by omega
      have e2 : List.getD (List.map iD lits) (lits.length - 1 - k) default = iD (lits.getD (lits.length - 1 - k) 0) := getD_mapD (by omega)
      have w3 : IntKind.i64.wrap (((lits.length - 1 - k : Nat) : Int) - 1) = (lits.length : Int) - 1 - ((k + 1 : Nat) : Int) := by rw [wrap64_id _ (by omega) (by omega)]; omega
      have hrev : lits.reverse.getD k 0 = lits.getD (lits.length - 1 - k) 0 := by
        rw [List.getD_eq_getElem?_getD, List.getElem?_reverse klt, List.getD_eq_getElem?_getD]
      rw [hn] at kd ⊢
      simp only [go_sem, List.length_map, kd, e2, w3]
      refine ⟨⟨by omega, by omega⟩, ⟨by rw [List.length_take, List.length_reverse]; omega, by simp only [maxLen]; omega, by omega⟩, ?_⟩
      refine Wk.keep [1, 2, 3, 7, 8, 9] [0, 3] (by decide) (Nat.le_refl _) hbd ⟨lits.length - (k + 1), by omega, k + 1, klt, rfl, ?_, ?_⟩
      · simp only [go_sem]
      · rw [take_snoc 0 (by rw [List.length_reverse]; exact klt), hrev]
        simp only [go_sem, List.map_append, List.map_cons, List.map_nil, ints]
    · have kd : decide ((0 : Int) ≤ (lits.length : Int) - 1 - k) = false := decide_eq_false (by omega)
      have ktk : lits.reverse.take k = lits.reverse := List.take_of_length_le (by rw [List.length_reverse]; exact kge)
      simp only [go_sem, kd, ktk]
      rw [show k = lits.length by omega]
      refine Wk.pre [1, 2, 3, 7, 8] ?_
      simp only [go_sem]
      refine Wk.frz 1 1 0 (lits.reverse.map iD) rfl (lies_ints _) ?_
      simp only [go_sem, List.length_map, List.length_reverse]
      exact Wk.keep [1, 2, 3, 7, 8] [0] (by decide) (Nat.le_refl _) hbd ⟨by simp only [go_sem]; rfl, by simp only [go_sem]; rfl⟩
  rintro fr st ⟨rfl, rfl⟩
  have hok2 : (validC (trnF f b) && litsOk (trnF f b).vars [] lits.reverse) = true := by
    rw [trn_valid b hvv]; exact usB_ok (usB_rev hus) (fun _ h => h) (by simp)
  obtain ⟨q1, q2, q3, q4, q5⟩ := propS_spec hok
  obtain ⟨r1, r2, r3, r4, r5⟩ := propS_spec hok2
  have m1 := propS_mono hok hok2 (fun l hl => List.mem_reverse.2 hl) (sub_trn f b)
  have m2 := propS_mono hok2 hok (fun l hl => List.mem_reverse.1 hl) (trn_sub f b)
  obtain ⟨⟨T, Rs, c⟩, hr⟩ : ∃ r, propS f lits = r := ⟨_, rfl⟩
  obtain ⟨⟨T', Rs', c'⟩, hr'⟩ : ∃ r, propS (trnF f b) lits.reverse = r := ⟨_, rfl⟩
  rw [hr] at q1 q4 m1 m2
  rw [hr'] at r1 r4 m1 m2
  simp only at q1 q4 r1 r4 m1 m2
  have hTl := q1.len hv0.1
  have hTl' := r1.len hv0.1
  simp only [go_sem]
  refine ac' (propagate_ac f lits hv (by omega) (fun c hc => by have := b4 c hc; omega) hll hl _ _ _ ?_)
  rw [hr]
  simp only [go_sem]
  refine ac' (turned23_ac f b hb255 (by omega) (fun c hc => by have := b4 c hc; omega) hv _ _ _ ?_)
  simp only [go_sem]
  have hfl : (trnF f b).cls.length = f.cls.length := by simp [trnF]
  refine ac' (propagate_ac (trnF f b) lits.reverse hv (by omega) (fun c hc => ?_) (by rw [List.length_reverse]; exact hll) (fun l hl' => hl l (List.mem_reverse.1 hl')) _ _ _ ?_)
  · obtain ⟨i, hi, rfl⟩ := trnF_mem.1 hc
    have := b4 _ (getD_mem [] (Nat.mod_lt (i + b) (show f.cls.length > 0 by omega)))
    rw [trnC, List.length_reverse]; omega
  rw [hr']
  simp only [go_sem, Try.results6]
  refine ⟨fun q => ?_, fun q => ?_⟩
  · have hcc : c ≠ -1 ∨ c' ≠ -1 := by simpa using q
    have h5 : 0 ≤ c ∧ 0 ≤ c' := by
      by_cases e1 : c = -1
      · have := (m2 e1).1; omega
      · by_cases e2 : c' = -1
        · have := (m1 e2).1; omega
        · omega
    rw [decide_eq_true h5.1, decide_eq_true h5.2]
    exact ret_d hbd h
  · have hcc : c = -1 ∧ c' = -1 := by simpa using q
    obtain ⟨rfl, rfl⟩ := hcc
    have s1 := (m1 rfl).2
    have s2 := (m2 rfl).2
    have hlen : T.length = T'.length := Nat.le_antisymm (nodup_sub q1.nodup s1) (nodup_sub r1.nodup s2)
    have e1 : (T.all fun x => decide (x ∈ T')) = true := List.all_eq_true.2 fun x hx => decide_eq_true (s1 x hx)
    have e2 : (T'.all fun x => decide (x ∈ T)) = true := List.all_eq_true.2 fun x hx => decide_eq_true (s2 x hx)
    have e3 : ((T.length : Int) == (T'.length : Int)) = true := by rw [hlen]; simp
    simp only [isD, go_sem, List.length_map, e3, Try.results6]
    have hs1 := fun st => subset_ac T T' (by simp only [reachBytes]; omega) (by simp only [reachBytes]; omega) st G (fun r s => r = .d (.bool true) ∧ s = st) (by rw [e1]; exact ⟨rfl, rfl⟩)
    have hs2 := fun st => subset_ac T' T (by simp only [reachBytes]; omega) (by simp only [reachBytes]; omega) st G (fun r s => r = .d (.bool true) ∧ s = st) (by rw [e2]; exact ⟨rfl, rfl⟩)
    refine ex' (.bool true) ⟨fun _ => ?_, ?_⟩
    · simp only [go_sem]
      exact ac' (hs1 _)
    simp only [isD, go_sem, List.length_map, e3, Try.results6]
    refine ex' (.bool true) ⟨fun _ => ?_, ?_⟩
    · simp only [go_sem]
      exact ac' (hs2 _)
    simp only [isD, go_sem, List.length_map, e3, Try.results6]
    exact ret_d hbd h
end Go.Proofs.Ytpmjdaiboniagaa
end PartU28

section PartR6
/- UnitpropOrder: the law answers true for every input, and leaves its input as it was. No condition. -/
set_option maxRecDepth 100000
set_option linter.unusedSimpArgs false
set_option linter.unusedVariables false
namespace Go.Proofs.Ytpmjdaiboniagaa
open Go Go.Ab Go.RowKit Go.ChangeShapes Go.WideShapes
theorem liftedUnitpropOrder (os : Os) (started : os.Started) (H : Type) (enc : TypeId × Value → H) :
    ReturnsInHanded {} Try.checked os 6 .any (Rows.unitpropOrderSpec.pre6 enc Try.prog Try.f6 [] false) (Rows.unitpropOrderSpec.post enc Try.prog Try.f6 false true false false) := by
  refine returns_plain (C := Try.checked) own started (by kernel_rfl) Try.func6 (ChangeSpec.witness6 (enc := enc) (C := Try.checked) false ⟨#[], #[.agg #[.int .i64 0, .slice none 0 0], .slice none 0 0, .int .u8 0], []⟩ 8 (by kernel_rfl) (by kernel_rfl) (by kernel_rfl) (by kernel_rfl)) ?_
  intro W base args ds gs before hval hW hz
  refine calls_true (G := fun _ => none) (S := [3, 5, 25, 22, 24]) (tb := 4) hW hval (by kernel_rfl) (by rw [Try.params6]; kernel_rfl) (by kernel_rfl) (by rw [Try.params6]; kernel_rfl) rfl (by kernel_rfl) Try.underlying4 (fun ds hds => ?_) (fun g x h => by cases h) hz (fun xs hx => ?_)
  · rw [Try.params6] at hds
    match ds, hds with
    | [d0, d1, d2], _ => rfl
  · skip
    rw [Try.params6] at hx
    generalize args.toList = vs at hx
    cases hx with
    | cons h0 _ hx =>
      obtain ⟨n0, h0⟩ := h0
      obtain ⟨x0, rfl, k0⟩ := dty_cnf h0
      cases hx with
      | cons h1 _ hx =>
        obtain ⟨n1, h1⟩ := h1
        obtain ⟨x1, rfl, k1⟩ := dty_ints h1
        cases hx with
        | cons h2 _ hx =>
          obtain ⟨n2, h2⟩ := h2
          obtain ⟨x2, rfl, k2⟩ := dty_u8' h2
          cases hx
          exact law6_ac x0 x1 x2 k2 k0.2.1 (fun c hc => (k0.2.2 c hc).1) k0.1 k1.1 k1.2 [] _ _ rfl
theorem closedUnitpropOrder : joinedFacts Try.prog 6 Try.f6 Rows.unitpropOrderSpec Rows.unitpropOrderRow = true := by
  rw [joinedFacts, mayEnter, liftsFinal, makes]
  kernel_rfl
theorem unitpropOrder_holds : Rows.UnitpropOrderSaid :=
  OpenClaim.holds_of_wide 6 Try.f6 rfl rfl rfl rfl rfl rfl rfl ⟨rfl, rfl, rfl, rfl, rfl⟩ rfl rfl rfl rfl rfl (by kernel_rfl) Try.func6 closedUnitpropOrder
    (of_decide_eq_true (by kernel_rfl)) (by unfold Func.isWrapper; first | (rw [if_pos (by decide +kernel)]; kernel_rfl) | (rw [if_neg (by decide +kernel)]; exact ⟨rfl, rfl⟩))
    (fun os started H enc _ => liftedUnitpropOrder os started H enc)
#print axioms unitpropOrder_holds
end Go.Proofs.Ytpmjdaiboniagaa
end PartR6
