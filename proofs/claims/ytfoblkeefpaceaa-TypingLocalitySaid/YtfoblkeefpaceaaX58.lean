import Derived.Test.YtfoblkeefpaceaaX57

section PartW5
/- The law of locality. -/
set_option linter.unusedSimpArgs false
set_option linter.unusedVariables false
set_option maxRecDepth 100000
namespace Go.Proofs.Ytfoblkeefpaceaa
open Go Go.Ab

theorem lies_take {cs : List A} {sz off : Nat} {xs : List D} (n : Nat) (h : Lies cs sz off xs) : Lies cs sz off (xs.take n) := by
  have hg : ∀ (i : Nat) (x : D), (xs.take n)[i]? = some x → xs[i]? = some x := fun i x hx => by
    rw [List.getElem?_take] at hx
    split at hx
    · exact hx
    · cases hx
  exact ⟨fun i x hx => h.1 i x (hg i x hx), fun i x j y hx hy => h.2 i x j y (hg i x hx) hy⟩
theorem short_lens {S : Sy} (h : shortM S = true) : S.mods.length ≤ 12 ∧ S.locks.length ≤ 12 ∧ S.procs.length ≤ 12 := by
  unfold shortM at h
  simp only [Bool.and_eq_true, decide_eq_true_eq] at h
  exact ⟨h.1.1.1.1, h.1.1.1.2.2.1, h.1.1.1.2.2.2.1⟩
theorem check_len (S : Sy) : (checkR S).length ≤ 20 := by
  unfold checkR
  split
  · simp only [List.length_take]; omega
  · simp
theorem range_len (f : Nat → List Dg) (h : ∀ k, (f k).length ≤ 20) : ∀ n, ((List.range n).flatMap f).length ≤ 20 * n
  | 0 => by simp
  | n + 1 => by
    rw [List.range_succ, List.flatMap_append, List.length_append]
    have := range_len f h n
    have := h n
    simp only [List.flatMap_cons, List.flatMap_nil, List.append_nil]; omega
theorem mem_pick {α : Type} {z : α → α} {a : Int} {l : List α} {y : α} (h : y ∈ l.zipIdx.map fun x => if (x.2 : Int) = a then x.1 else z x.1) : ∃ x ∈ l, y = x ∨ y = z x := by
  obtain ⟨x, hx, rfl⟩ := List.mem_map.1 h
  have := List.mem_of_getElem? (zip_get hx)
  refine ⟨x.1, this, ?_⟩
  split
  · exact .inl rfl
  · exact .inr rfl
theorem only_ok {S : Sy} (h : S.Ok) (a b c : Int) : (onlyM S a b c).Ok := by
  refine ⟨by simpa [onlyM] using h.mods, h.vars, by simpa [onlyM] using h.locks, by simpa [onlyM] using h.procs, h.threads, fun m hm => ?_, h.va, fun l hl => ?_, fun p hp => ?_⟩
  · obtain ⟨x, hx, rfl | rfl⟩ := mem_pick (z := fun m : Mo => { m with rely := Nd.none, guar := Nd.none, frame := [] }) hm
    · exact h.mo _ hx
    · exact ⟨Nd.none_ok, Nd.none_ok, by simp, fun e he => by cases he⟩
  · obtain ⟨x, hx, rfl | rfl⟩ := mem_pick (z := fun m : Lk => { m with inv := Nd.none }) hl
    · exact h.lo _ hx
    · exact Nd.none_ok
  · obtain ⟨x, hx, rfl | rfl⟩ := mem_pick (z := fun m : Pr => { m with body := Nd.none }) hp
    · exact h.pr _ hx
    · have := h.pr _ hx
      exact ⟨this.params, this.locals, this.vp, this.vl, Nd.none_ok⟩
theorem fit_none : FitB [] Nd.none := fit_nil (by decide)
theorem only_fit {S : Sy} (h : S.Fit) (a b c : Int) : (onlyM S a b c).Fit := by
  refine ⟨fun m hm => ?_, fun l hl => ?_, fun p hp => ?_⟩
  · obtain ⟨x, hx, rfl | rfl⟩ := mem_pick (z := fun m : Mo => { m with rely := Nd.none, guar := Nd.none, frame := [] }) hm
    · exact h.mo _ hx
    · exact ⟨fit_none, fit_none⟩
  · obtain ⟨x, hx, rfl | rfl⟩ := mem_pick (z := fun m : Lk => { m with inv := Nd.none }) hl
    · exact h.lo _ hx
    · exact fit_none
  · obtain ⟨x, hx, rfl | rfl⟩ := mem_pick (z := fun m : Pr => { m with body := Nd.none }) hp
    · exact h.pr _ hx
    · exact fit_none
set_option maxHeartbeats 16000000 in
theorem law5_ac {S : Sy} (hS : S.Ok) (σ : St) (G : Glob) (R : A → St → Prop) (h : R (db true) σ) : AC Try.prog G 5 [.d (syD S)] σ R := by
  have hsy : syD S = .agg [.sl 22 (S.mods.map moD), vrsD S.vars, .sl 12 (S.locks.map lkD), .sl 16 (S.procs.map prD), .sl 5 (S.threads.map thD)] := rfl
  rw [hsy]
  refine ac_enterC' [4] mixed Try.func5 rfl Try.ntmps5 (by simp only [go_sem]) fun hbd => ?_
  simp only [List.length_cons, List.length_nil, Nat.reduceAdd, Nat.reduceSub, List.replicate_succ, List.replicate_zero, List.cons_append, List.nil_append]
  simp only [go_sem, Try.results5]
  refine ac' (head_ac _ _ _ ?_)
  simp only [go_sem, Try.results5]
  refine aw_cut (fun fr st => shortM S = true ∧ usableM S = true ∧ fr = [.any, .ref σ.length 0, .any, db true, .any, .any, .any, .any, .any, .any, .any, .any, .any, .any, .any, .any, .any, .any, .any, .any, .any, .any, .any, .any, .any, .any, .any, .any, .any, .any, .any, .any, .any, .any, .any, .any, .any, .any, .any, .any, .any, .any, .any, .any, .any, .any, .any, .any, .any, .any, .any, .any, .any, .any, .any, .any, .any, .any, .any, .any, .any, .any, .any, .any, .any, .any, .any, .any, .any] ∧ st = σ ++ [scs S]) ?_ ?_
  · simp only [go_sem, Try.results5]
    rw [← hsy]
    refine ac' (short_ac S hS _ _ _ ?_)
    simp only [go_sem, Try.results5]
    refine ex' (.bool (usableM S)) ⟨fun q => ?_, ?_⟩
    · simp only [go_sem, Try.results5]
      rw [← hsy]
      exact ⟨by simpa using q, ac' (rusable_ac S hS _ _ _ ⟨rfl, rfl⟩)⟩
    simp only [go_sem, Try.results5]
    refine ⟨fun q => by simpa using q, fun c => ret_bd hbd rfl h, fun c => ?_⟩
    simp only [Bool.or_eq_false_iff, Bool.not_eq_false'] at c
    exact Wk.keep [1, 3] [0] (by decide) (Nat.le_refl _) hbd ⟨c.1, c.2, by (simp only [go_sem]) <;> rfl, by (simp only [go_sem]) <;> rfl⟩
  rintro fr st ⟨h1, h2, rfl, rfl⟩
  have hF := short_fit h1
  obtain ⟨hs1, hs2, hs3⟩ := short_lens h1
  simp only [go_sem, Try.results5]
  obtain ⟨p0, hp0, hl0⟩ : ∃ p : List Dg, p = [] ∧ p.length = 0 := ⟨_, rfl, rfl⟩
  have hx0 : flat (p0.map dgD) = [] := by rw [hp0]; rfl
  refine aw_loop (fun m fr st => ∃ (j : Nat) (p1 : List Dg), j ≤ S.mods.length ∧ m = S.mods.length - j ∧ p1 = p0 ++ (List.range j).flatMap (fun k : Nat => checkR (onlyM S k (-1) (-1))) ∧ fr = [.any, .ref σ.length 0, .any, db true, .rs (σ.length + 1) 2 0 p1.length (some 75), dn j, .any, .any, .any, .any, .any, .any, .any, .any, .any, .any, .any, .any, .any, .any, .any, .any, .any, .any, .any, .any, .any, .any, .any, .any, .any, .any, .any, .any, .any, .any, .any, .any, .any, .any, .any, .any, .any, .any, .any, .any, .any, .any, .any, .any, .any, .any, .any, .any, .any, .any, .any, .any, .any, .any, .any, .any, .any, .any, .any, .any, .any, .any, .any] ∧ st = σ ++ [scs S, some (.cells (flat (p1.map dgD)))]) S.mods.length _ ?_ ?_
  · exact Wk.mask [1, 3, 4, 5] ⟨0, p0, by omega, by omega, by simp, by rw [hl0]; rfl, by rw [hx0]⟩
  rintro m fr st ⟨j, p1, hj, hm, hp1, rfl, rfl⟩
  have hb := range_len (fun k : Nat => checkR (onlyM S k (-1) (-1))) (fun k => check_len _) j
  have hl1 : p1.length ≤ 20 * (0 + j) := by rw [hp1, List.length_append]; omega
  rcases Nat.lt_or_ge j S.mods.length with hlt | hge
  · have hd : decide ((j : Int) < (S.mods.length : Int)) = true := by simp; omega
    have w1 := wrapS j (by omega)
    have hnx : p0 ++ (List.range (j + 1)).flatMap (fun k : Nat => checkR (onlyM S k (-1) (-1))) = p1 ++ checkR (onlyM S j (-1) (-1)) := by
      rw [hp1, List.range_succ, List.flatMap_append]; simp
    have hcl := check_len (onlyM S j (-1) (-1))
    have hfl := flat_dgs_len p1
    simp only [go_sem, List.length_map, hd, w1, Try.results5]
    rw [← hsy]
    refine ac' (only_ac hS hs1 hs2 hs3 (j : Int) (-1) (-1) _ _ _ ?_)
    have hck := checkF_ac (only_ok hS (j : Int) (-1) (-1)) (only_fit hF (j : Int) (-1) (-1))
    generalize onlyM S j (-1) (-1) = S' at hck hnx hcl
    have hsy' : syD S' = .agg [.sl 22 (S'.mods.map moD), vrsD S'.vars, .sl 12 (S'.locks.map lkD), .sl 16 (S'.procs.map prD), .sl 5 (S'.threads.map thD)] := rfl
    rw [hsy']
    simp only [go_sem, w1, Try.results5]
    rw [← hsy']
    refine ac' (hck _ _ _ ?_)
    generalize checkR S' = q at hnx hcl
    simp only [dgsD, go_sem, List.length_map, hfl, w1, Try.results5]
    refine ⟨⟨by simp only [maxLen]; omega, by omega⟩, ?_⟩
    exact Wk.keep [1, 3, 4, 5] [0, 2] (by decide) (Nat.le_refl _) hbd ⟨S.mods.length - (j + 1), by omega, j + 1, p1 ++ q, by omega, rfl, hnx.symm, by (simp only [go_sem, List.length_append]) <;> rfl, by rw [List.map_append, flat_append]; (simp only [go_sem]) <;> rfl⟩
  have hd : decide ((j : Int) < (S.mods.length : Int)) = false := by simp; omega
  obtain rfl : j = S.mods.length := by omega
  simp only [go_sem, List.length_map, hd, Try.results5]
  clear hd hge hm hj hb
  refine aw_loop (fun m fr st => ∃ (j : Nat) (p2 : List Dg), j ≤ S.locks.length ∧ m = S.locks.length - j ∧ p2 = p1 ++ (List.range j).flatMap (fun k : Nat => checkR (onlyM S (-1) k (-1))) ∧ fr = [.any, .ref σ.length 0, .any, db true, .rs (σ.length + 1) 2 0 p2.length (some 75), .any, dn j, .any, .any, .any, .any, .any, .any, .any, .any, .any, .any, .any, .any, .any, .any, .any, .any, .any, .any, .any, .any, .any, .any, .any, .any, .any, .any, .any, .any, .any, .any, .any, .any, .any, .any, .any, .any, .any, .any, .any, .any, .any, .any, .any, .any, .any, .any, .any, .any, .any, .any, .any, .any, .any, .any, .any, .any, .any, .any, .any, .any, .any, .any] ∧ st = σ ++ [scs S, some (.cells (flat (p2.map dgD)))]) S.locks.length _ ?_ ?_
  · exact Wk.mask [1, 3, 4, 6] ⟨0, p1, by omega, by omega, by simp, rfl, rfl⟩
  rintro m fr st ⟨j, p2, hj, hm, hp2, rfl, rfl⟩
  have hb := range_len (fun k : Nat => checkR (onlyM S (-1) k (-1))) (fun k => check_len _) j
  have hl2 : p2.length ≤ 20 * (((0 + S.mods.length)) + j) := by rw [hp2, List.length_append]; omega
  rcases Nat.lt_or_ge j S.locks.length with hlt | hge
  · have hd : decide ((j : Int) < (S.locks.length : Int)) = true := by simp; omega
    have w1 := wrapS j (by omega)
    have hnx : p1 ++ (List.range (j + 1)).flatMap (fun k : Nat => checkR (onlyM S (-1) k (-1))) = p2 ++ checkR (onlyM S (-1) j (-1)) := by
      rw [hp2, List.range_succ, List.flatMap_append]; simp
    have hcl := check_len (onlyM S (-1) j (-1))
    have hfl := flat_dgs_len p2
    simp only [go_sem, List.length_map, hd, w1, Try.results5]
    rw [← hsy]
    refine ac' (only_ac hS hs1 hs2 hs3 (-1) (j : Int) (-1) _ _ _ ?_)
    have hck := checkF_ac (only_ok hS (-1) (j : Int) (-1)) (only_fit hF (-1) (j : Int) (-1))
    generalize onlyM S (-1) j (-1) = S' at hck hnx hcl
    have hsy' : syD S' = .agg [.sl 22 (S'.mods.map moD), vrsD S'.vars, .sl 12 (S'.locks.map lkD), .sl 16 (S'.procs.map prD), .sl 5 (S'.threads.map thD)] := rfl
    rw [hsy']
    simp only [go_sem, w1, Try.results5]
    rw [← hsy']
    refine ac' (hck _ _ _ ?_)
    generalize checkR S' = q at hnx hcl
    simp only [dgsD, go_sem, List.length_map, hfl, w1, Try.results5]
    refine ⟨⟨by simp only [maxLen]; omega, by omega⟩, ?_⟩
    exact Wk.keep [1, 3, 4, 6] [0, 2] (by decide) (Nat.le_refl _) hbd ⟨S.locks.length - (j + 1), by omega, j + 1, p2 ++ q, by omega, rfl, hnx.symm, by (simp only [go_sem, List.length_append]) <;> rfl, by rw [List.map_append, flat_append]; (simp only [go_sem]) <;> rfl⟩
  have hd : decide ((j : Int) < (S.locks.length : Int)) = false := by simp; omega
  obtain rfl : j = S.locks.length := by omega
  simp only [go_sem, List.length_map, hd, Try.results5]
  clear hd hge hm hj hb
  refine aw_loop (fun m fr st => ∃ (j : Nat) (acc : List Dg), j ≤ S.procs.length ∧ m = S.procs.length - j ∧ acc = p2 ++ (List.range j).flatMap (fun k : Nat => checkR (onlyM S (-1) (-1) k)) ∧ fr = [.any, .ref σ.length 0, .any, db true, .rs (σ.length + 1) 2 0 acc.length (some 75), .any, .any, dn j, .any, .any, .any, .any, .any, .any, .any, .any, .any, .any, .any, .any, .any, .any, .any, .any, .any, .any, .any, .any, .any, .any, .any, .any, .any, .any, .any, .any, .any, .any, .any, .any, .any, .any, .any, .any, .any, .any, .any, .any, .any, .any, .any, .any, .any, .any, .any, .any, .any, .any, .any, .any, .any, .any, .any, .any, .any, .any, .any, .any, .any] ∧ st = σ ++ [scs S, some (.cells (flat (acc.map dgD)))]) S.procs.length _ ?_ ?_
  · exact Wk.mask [1, 3, 4, 7] ⟨0, p2, by omega, by omega, by simp, rfl, rfl⟩
  rintro m fr st ⟨j, acc, hj, hm, hacc, rfl, rfl⟩
  have hb := range_len (fun k : Nat => checkR (onlyM S (-1) (-1) k)) (fun k => check_len _) j
  have hal : acc.length ≤ 20 * (((0 + S.mods.length) + S.locks.length) + j) := by rw [hacc, List.length_append]; omega
  rcases Nat.lt_or_ge j S.procs.length with hlt | hge
  · have hd : decide ((j : Int) < (S.procs.length : Int)) = true := by simp; omega
    have w1 := wrapS j (by omega)
    have hnx : p2 ++ (List.range (j + 1)).flatMap (fun k : Nat => checkR (onlyM S (-1) (-1) k)) = acc ++ checkR (onlyM S (-1) (-1) j) := by
      rw [hacc, List.range_succ, List.flatMap_append]; simp
    have hcl := check_len (onlyM S (-1) (-1) j)
    have hfl := flat_dgs_len acc
    simp only [go_sem, List.length_map, hd, w1, Try.results5]
    rw [← hsy]
    refine ac' (only_ac hS hs1 hs2 hs3 (-1) (-1) (j : Int) _ _ _ ?_)
    have hck := checkF_ac (only_ok hS (-1) (-1) (j : Int)) (only_fit hF (-1) (-1) (j : Int))
    generalize onlyM S (-1) (-1) j = S' at hck hnx hcl
    have hsy' : syD S' = .agg [.sl 22 (S'.mods.map moD), vrsD S'.vars, .sl 12 (S'.locks.map lkD), .sl 16 (S'.procs.map prD), .sl 5 (S'.threads.map thD)] := rfl
    rw [hsy']
    simp only [go_sem, w1, Try.results5]
    rw [← hsy']
    refine ac' (hck _ _ _ ?_)
    generalize checkR S' = q at hnx hcl
    simp only [dgsD, go_sem, List.length_map, hfl, w1, Try.results5]
    refine ⟨⟨by simp only [maxLen]; omega, by omega⟩, ?_⟩
    exact Wk.keep [1, 3, 4, 7] [0, 2] (by decide) (Nat.le_refl _) hbd ⟨S.procs.length - (j + 1), by omega, j + 1, acc ++ q, by omega, rfl, hnx.symm, by (simp only [go_sem, List.length_append]) <;> rfl, by rw [List.map_append, flat_append]; (simp only [go_sem]) <;> rfl⟩
  have hd : decide ((j : Int) < (S.procs.length : Int)) = false := by simp; omega
  obtain rfl : j = S.procs.length := by omega
  simp only [go_sem, List.length_map, hd, Try.results5]
  clear hd hge hm hj hb
  have hall : acc = aloneM S := by rw [hacc, hp2, hp1, hp0, List.nil_append]; rfl
  have hlaw := locality_law S h2
  rw [← hall] at hlaw
  clear hall hacc
  refine aw_plan (.tk 3 0 <| .tk 2 4 <| .pure 3 <| .tk 6 6 <| .done) (by kernel_rfl) ?_
  simp only [go_sem, List.length_map, Try.results5]
  have hck := checkF_ac hS hF
  have hcl := check_len S
  rw [hlaw] at hck
  refine exQ (dgsD (acc.take 20)) ⟨fun _ => ?_, ?_⟩
  · simp only [go_sem, Try.results5]
    intro σ'
    rw [← hsy]
    exact ac' (hck _ _ _ ⟨rfl, rfl⟩)
  simp only [dgsD, go_sem, List.length_map, Try.results5]
  have hmin : (min (acc.length : Int) 20).toNat = ((acc.take 20).map dgD).length := by simp; omega
  refine ⟨⟨by omega, by omega⟩, exs ⟨fun _ => ?_, fun h => Bool.noConfusion h⟩⟩
  simp only [go_sem, Try.results5]
  refine ac' (ac_frz 1 2 0 ((acc.take 20).map dgD) rfl (by rw [List.map_take]; exact lies_take 20 (lies_dgs acc)) ?_)
  have hfz : frzL (σ.length + 1) 2 0 ((acc.take 20).map dgD) [A.d (D.sl 2 ((acc.take 20).map dgD)), A.rs (σ.length + 1) 2 0 (min (acc.length : Int) 20).toNat (some 75)] = [.d (dgsD (acc.take 20)), .d (dgsD (acc.take 20))] := by
    rw [hmin]; simp [frzL, A.frz, dgsD]
  rw [hfz]
  have hlt : (acc.take 20).length ≤ reachBytes := by
    have : 20 ≤ reachBytes := by decide
    simp; omega
  refine same_ac _ _ hlt hlt _ _ _ ?_
  rw [beq_self_eq_true]
  simp only [go_sem, Try.results5]
  exact ret_bd hbd rfl h
end Go.Proofs.Ytfoblkeefpaceaa
end PartW5
