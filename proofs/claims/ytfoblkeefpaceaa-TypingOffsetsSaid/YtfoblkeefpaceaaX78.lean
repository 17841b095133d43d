import Derived.Test.YtfoblkeefpaceaaX77

section PartW5
/- The law of locality. -/
set_option linter.unusedSimpArgs false
set_option linter.unusedVariables false
set_option maxRecDepth 100000
namespace Go.Proofs.Ytfoblkeefpaceaa
open Go Go.Ab

theorem lies_take {cs : List A} {sz off : Nat} {xs : List D} (n : Nat) (h : Lies cs sz off xs) : Lies cs sz off (xs.take n) := by
  have hg : ∀ (i : Nat) (x : D), (xs.take n)[i]? = some x → xs[i]? = some x := fun i x hx => by
    rw [List.getElem?_take] at hx
    split at hx
    · exact hx
    · cases hx
  exact ⟨fun i x hx => h.1 i x (hg i x hx), fun i x j y hx hy => h.2 i x j y (hg i x hx) hy⟩
theorem short_lens {S : Sy} (h : shortM S = true) : S.mods.length ≤ 12 ∧ S.locks.length ≤ 12 ∧ S.procs.length ≤ 12 := by
  unfold shortM at h
  simp only [Bool.and_eq_true, decide_eq_true_eq] at h
  exact ⟨h.1.1.1.1, h.1.1.1.2.2.1, h.1.1.1.2.2.2.1⟩
theorem check_len (S : Sy) : (checkR S).length ≤ 20 := by
  unfold checkR
  split
  · simp only [List.length_take]; omega
  · simp
theorem range_len (f : Nat → List Dg) (h : ∀ k, (f k).length ≤ 20) : ∀ n, ((List.range n).flatMap f).length ≤ 20 * n
  | 0 => by simp
  | n + 1 => by
    rw [List.range_succ, List.flatMap_append, List.length_append]
    have := range_len f h n
    have := h n
    simp only [List.flatMap_cons, List.flatMap_nil, List.append_nil]; omega
theorem mem_pick {α : Type} {z : α → α} {a : Int} {l : List α} {y : α} (h : y ∈ l.zipIdx.map fun x => if (x.2 : Int) = a then x.1 else z x.1) : ∃ x ∈ l, y = x ∨ y = z x := by
  obtain ⟨x, hx, rfl⟩ := List.mem_map.1 h
  have := List.mem_of_getElem? (zip_get hx)
  refine ⟨x.1, this, ?_⟩
  split
  · exact .inl rfl
  · exact .inr rfl
theorem only_ok {S : Sy} (h : S.Ok) (a b c : Int) : (onlyM S a b c).Ok := by
  refine ⟨by simpa [onlyM] using h.mods, h.vars, by simpa [onlyM] using h.locks, by simpa [onlyM] using h.procs, h.threads, fun m hm => ?_, h.va, fun l hl => ?_, fun p hp => ?_⟩
  · obtain ⟨x, hx, rfl | rfl⟩ := mem_pick (z := fun m : Mo => { m with rely := Nd.none, guar := Nd.none, frame := [] }) hm
    · exact h.mo _ hx
    · exact ⟨Nd.none_ok, Nd.none_ok, by simp, fun e he => by cases he⟩
  · obtain ⟨x, hx, rfl | rfl⟩ := mem_pick (z := fun m : Lk => { m with inv := Nd.none }) hl
    · exact h.lo _ hx
    · exact Nd.none_ok
  · obtain ⟨x, hx, rfl | rfl⟩ := mem_pick (z := fun m : Pr => { m with body := Nd.none }) hp
    · exact h.pr _ hx
    · have := h.pr _ hx
      exact ⟨this.params, this.locals, this.vp, this.vl, Nd.none_ok⟩
theorem fit_none : FitB [] Nd.none := fit_nil (by decide)
theorem only_fit {S : Sy} (h : S.Fit) (a b c : Int) : (onlyM S a b c).Fit := by
  refine ⟨fun m hm => ?_, fun l hl => ?_, fun p hp => ?_⟩
  · obtain ⟨x, hx, rfl | rfl⟩ := mem_pick (z := fun m : Mo => { m with rely := Nd.none, guar := Nd.none, frame := [] }) hm
    · exact h.mo _ hx
    · exact ⟨fit_none, fit_none⟩
  · obtain ⟨x, hx, rfl | rfl⟩ := mem_pick (z := fun m : Lk => { m with inv := Nd.none }) hl
    · exact h.lo _ hx
    · exact fit_none
  · obtain ⟨x, hx, rfl | rfl⟩ := mem_pick (z := fun m : Pr => { m with body := Nd.none }) hp
    · exact h.pr _ hx
    · exact fit_none
set_option maxHeartbeats 16000000 in
theorem law5_ac {S : Sy} (hS : S.Ok) (σ : St) (G : Glob) (R : A → St → Prop) (h : R (db true) σ) : AC Try.prog G 5 [.d (syD S)] σ R := by
  have hsy : syD S = .agg [.sl 22 (S.mods.map moD), vrsD S.vars, .sl 12 (S.locks.map lkD), .sl 16 (S.procs.map prD), .sl 5 (S.threads.map thD)] := rfl
  rw [hsy]
  refine ac_enterC' [4] mixed Try.func5 rfl Try.ntmps5 (by simp only [go_sem]) fun hbd => ?_
  simp only [List.length_cons, List.length_nil, Nat.reduceAdd, Nat.reduceSub, List.replicate_succ, List.replicate_zero, List.cons_append, List.nil_append]
  simp only [go_sem, Try.results5]
  refine ac' (head_ac _ _ _ ?_)
  simp only [go_sem, Try.results5]
  refine aw_cut (fun fr st => shortM S = true ∧ usableM S = true ∧ fr = [.any, .ref σ.length 0, .any, db true, .any, .any, .any, .any, .any, .any, .any, .any, .any, .any, .any, .any, .any, .any, .any, .any, .any, .any, .any, .any, .any, .any, .any, .any, .any, .any, .any, .any, .any, .any, .any, .any, .any, .any, .any, .any, .any, .any, .any, .any, .any, .any, .any, .any, .any, .any, .any, .any, .any, .any, .any, .any, .any, .any, .any, .any, .any, .any, .any, .any, .any, .any, .any, .any, .any] ∧ st = σ ++ [scs S]) ?_ ?_
  · simp only [go_sem, Try.results5]
    rw [← hsy]
    refine ac' (short_ac S hS _ _ _ ?_)
    simp only [go_sem, Try.results5]
    refine ex' (.bool (usableM S)) ⟨fun q => ?_, ?_⟩
    · simp only [go_sem, Try.results5]
      rw [← hsy]
      exact ⟨by simpa using q, ac' (rusable_ac S hS _ _ _ ⟨rfl, rfl⟩)⟩
    simp only [go_sem, Try.results5]
    refine ⟨fun q => by simpa using q, fun c => ret_bd hbd rfl h, fun c => ?_⟩
    simp only [Bool.or_eq_false_iff, Bool.not_eq_false'] at c
    exact Wk.keep [1, 3] [0] (by decide) (Nat.le_refl _) hbd ⟨c.1, c.2, by (simp only [go_sem]) <;> rfl, by (simp only [go_sem]) <;> rfl⟩
  rintro fr st ⟨h1, h2, rfl, rfl⟩
  have hF := short_fit h1
  obtain ⟨hs1, hs2, hs3⟩ := short_lens h1
  simp only [go_sem, Try.results5]
  obtain ⟨p0, hp0, hl0⟩ : ∃ p : List Dg, p = [] ∧ p.length = 0 := ⟨_, rfl, rfl⟩
  have hx0 : flat (p0.map dgD) = [] := by rw [hp0]; rfl
  refine aw_loop (fun m fr st => ∃ (j : Nat) (p1 : List Dg), j ≤ S.mods.length ∧ m = S.mods.length - j ∧ p1 = p0 ++ (List.range j).flatMap (fun k : Nat => checkR (onlyM S k (-1) (-1))) ∧ fr = [.any, .ref σ.length 0, .any, db true, .rs (σ.length + 1) 2 0 p1.length (some 75), dn j, .any, .any, .any, .any, .any, .any, .any, .any, .any, .any, .any, .any, .any, .any, .any, .any, .any, .any, .any, .any, .any, .any, .any, .any, .any, .any, .any, .any, .any, .any, .any, .any, .any, .any, .any, .any, .any, .any, .any, .any, .any, .any, .any, .any, .any, .any, .any, .any, .any, .any, .any, .any, .any, .any, .any, .any, .any, .any, .any, .any, .any, .any, .any] ∧ st = σ ++ [scs S, some (.cells (flat (p1.map dgD)))]) S.mods.length _ ?_ ?_
  · exact Wk.mask [1, 3, 4, 5] ⟨0, p0, by omega, by omega, by simp, by rw [hl0]; rfl, by rw [hx0]⟩
  rintro m fr st ⟨j, p1, hj, hm, hp1, rfl, rfl⟩
  have hb := range_len (fun k : Nat => checkR (onlyM S k (-1) (-1))) (fun k => check_len _) j
  have hl1 : p1.length ≤ 20 * (0 + j) := by rw [hp1, List.length_append]; omega
  rcases Nat.lt_or_ge j S.mods.length with hlt | hge
  · have hd : decide ((j : Int) < (S.mods.length : Int)) = true := by simp; omega
    have w1 := wrapS j (by omega)
    have hnx : p0 ++ (List.range (j + 1)).flatMap (fun k : Nat => checkR (onlyM S k (-1) (-1))) = p1 ++ checkR (onlyM S j (-1) (-1)) := by
      rw [hp1, List.range_succ, List.flatMap_append]; simp
    have hcl := check_len (onlyM S j (-1) (-1))
    have hfl := flat_dgs_len p1
    simp only [go_sem, List.length_map, hd, w1, Try.results5]
    rw [← hsy]
    refine ac' (only_ac hS hs1 hs2 hs3 (j : Int) (-1) (-1) _ _ _ ?_)
    have hck := checkF_ac (only_ok hS (j : Int) (-1) (-1)) (only_fit hF (j : Int) (-1) (-1))
    generalize onlyM S j (-1) (-1) = S' at hck hnx hcl
    have hsy' : syD S' = .agg [.sl 22 (S'.mods.map moD), vrsD S'.vars, .sl 12 (S'.locks.map lkD), .sl 16 (S'.procs.map prD), .sl 5 (S'.threads.map thD)] := rfl
    rw [hsy']
    simp only [go_sem, w1, Try.results5]
    rw [← hsy']
    refine ac' (hck _ _ _ ?_)
    generalize checkR S' = q at hnx hcl
    simp only [dgsD, go_sem, List.length_map, hfl, w1, Try.results5]
    refine ⟨⟨by simp only [maxLen]; omega, by omega⟩, ?_⟩
    exact Wk.keep [1, 3, 4, 5] [0, 2] (by decide) (Nat.le_refl _) hbd ⟨S.mods.length - (j + 1), by omega, j + 1, p1 ++ q, by omega, rfl, hnx.symm, by (simp only [go_sem, List.length_append]) <;> rfl, by rw [List.map_append, flat_append]; (simp only [go_sem]) <;> rfl⟩
  have hd : decide ((j : Int) < (S.mods.length : Int)) = false := by simp; omega
  obtain rfl : j = S.mods.length := by omega
  simp only [go_sem, List.length_map, hd, Try.results5]
  clear hd hge hm hj hb
  refine aw_loop (fun m fr st => ∃ (j : Nat) (p2 : List Dg), j ≤ S.locks.length ∧ m = S.locks.length - j ∧ p2 = p1 ++ (List.range j).flatMap (fun k : Nat => checkR (onlyM S (-1) k (-1))) ∧ fr = [.any, .ref σ.length 0, .any, db true, .rs (σ.length + 1) 2 0 p2.length (some 75), .any, dn j, .any, .any, .any, .any, .any, .any, .any, .any, .any, .any, .any, .any, .any, .any, .any, .any, .any, .any, .any, .any, .any, .any, .any, .any, .any, .any, .any, .any, .any, .any, .any, .any, .any, .any, .any, .any, .any, .any, .any, .any, .any, .any, .any, .any, .any, .any, .any, .any, .any, .any, .any, .any, .any, .any, .any, .any, .any, .any, .any, .any, .any, .any] ∧ st = σ ++ [scs S, some (.cells (flat (p2.map dgD)))]) S.locks.length _ ?_ ?_
  · exact Wk.mask [1, 3, 4, 6] ⟨0, p1, by omega, by omega, by simp, rfl, rfl⟩
  rintro m fr st ⟨j, p2, hj, hm, hp2, rfl, rfl⟩
  have hb := range_len (fun k : Nat => checkR (onlyM S (-1) k (-1))) (fun k => check_len _) j
  have hl2 : p2.length ≤ 20 * (((0 + S.mods.length)) + j) := by rw [hp2, List.length_append]; omega
  rcases Nat.lt_or_ge j S.locks.length with hlt | hge
  · have hd : decide ((j : Int) < (S.locks.length : Int)) = true := by simp; omega
    have w1 := wrapS j (by omega)
    have hnx : p1 ++ (List.range (j + 1)).flatMap (fun k : Nat => checkR (onlyM S (-1) k (-1))) = p2 ++ checkR (onlyM S (-1) j (-1)) := by
      rw [hp2, List.range_succ, List.flatMap_append]; simp
    have hcl := check_len (onlyM S (-1) j (-1))
    have hfl := flat_dgs_len p2
    simp only [go_sem, List.length_map, hd, w1, Try.results5]
    rw [← hsy]
    refine ac' (only_ac hS hs1 hs2 hs3 (-1) (j : Int) (-1) _ _ _ ?_)
    have hck := checkF_ac (only_ok hS (-1) (j : Int) (-1)) (only_fit hF (-1) (j : Int) (-1))
    generalize onlyM S (-1) j (-1) = S' at hck hnx hcl
    have hsy' : syD S' = .agg [.sl 22 (S'.mods.map moD), vrsD S'.vars, .sl 12 (S'.locks.map lkD), .sl 16 (S'.procs.map prD), .sl 5 (S'.threads.map thD)] := rfl
    rw [hsy']
    simp only [go_sem, w1, Try.results5]
    rw [← hsy']
    refine ac' (hck _ _ _ ?_)
    generalize checkR S' = q at hnx hcl
    simp only [dgsD, go_sem, List.length_map, hfl, w1, Try.results5]
    refine ⟨⟨by simp only [maxLen]; omega, by omega⟩, ?_⟩
    exact Wk.keep [1, 3, 4, 6] [0, 2] (by decide) (Nat.le_refl _) hbd ⟨S.locks.length - (j + 1), by omega, j + 1, p2 ++ q, by omega, rfl, hnx.symm, by (simp only [go_sem, List.length_append]) <;> rfl, by rw [List.map_append, flat_append]; (simp only [go_sem]) <;> rfl⟩
  have hd : decide ((j : Int) < (S.locks.length : Int)) = false := by simp; omega
  obtain rfl : j = S.locks.length := by omega
  simp only [go_sem, List.length_map, hd, Try.results5]
  clear hd hge hm hj hb
  refine aw_loop (fun m fr st => ∃ (j : Nat) (acc : List Dg), j ≤ S.procs.length ∧ m = S.procs.length - j ∧ acc = p2 ++ (List.range j).flatMap (fun k : Nat => checkR (onlyM S (-1) (-1) k)) ∧ fr = [.any, .ref σ.length 0, .any, db true, .rs (σ.length + 1) 2 0 acc.length (some 75), .any, .any, dn j, .any, .any, .any, .any, .any, .any, .any, .any, .any, .any, .any, .any, .any, .any, .any, .any, .any, .any, .any, .any, .any, .any, .any, .any, .any, .any, .any, .any, .any, .any, .any, .any, .any, .any, .any, .any, .any, .any, .any, .any, .any, .any, .any, .any, .any, .any, .any, .any, .any, .any, .any, .any, .any, .any, .any, .any, .any, .any, .any, .any, .any] ∧ st = σ ++ [scs S, some (.cells (flat (acc.map dgD)))]) S.procs.length _ ?_ ?_
  · exact Wk.mask [1, 3, 4, 7] ⟨0, p2, by omega, by omega, by simp, rfl, rfl⟩
  rintro m fr st ⟨j, acc, hj, hm, hacc, rfl, rfl⟩
  have hb := range_len (fun k : Nat => checkR (onlyM S (-1) (-1) k)) (fun k => check_len _) j
  have hal : acc.length ≤ 20 * (((0 + S.mods.length) + S.locks.length) + j) := by rw [hacc, List.length_append]; omega
  rcases Nat.lt_or_ge j S.procs.length with hlt | hge
  · have hd : decide ((j : Int) < (S.procs.length : Int)) = true := by simp; omega
    have w1 := wrapS j (by omega)
    have hnx : p2 ++ (List.range (j + 1)).flatMap (fun k : Nat => checkR (onlyM S (-1) (-1) k)) = acc ++ checkR (onlyM S (-1) (-1) j) := by
      rw [hacc, List.range_succ, List.flatMap_append]; simp
    have hcl := check_len (onlyM S (-1) (-1) j)
    have hfl := flat_dgs_len acc
    simp only [go_sem, List.length_map, hd, w1, Try.results5]
    rw [← hsy]
    refine ac' (only_ac hS hs1 hs2 hs3 (-1) (-1) (j : Int) _ _ _ ?_)
    have hck := checkF_ac (only_ok hS (-1) (-1) (j : Int)) (only_fit hF (-1) (-1) (j : Int))
    generalize onlyM S (-1) (-1) j = S' at hck hnx hcl
    have hsy' : syD S' = .agg [.sl 22 (S'.mods.map moD), vrsD S'.vars, .sl 12 (S'.locks.map lkD), .sl 16 (S'.procs.map prD), .sl 5 (S'.threads.map thD)] := rfl
    rw [hsy']
    simp only [go_sem, w1, Try.results5]
    rw [← hsy']
    refine ac' (hck _ _ _ ?_)
    generalize checkR S' = q at hnx hcl
    simp only [dgsD, go_sem, List.length_map, hfl, w1, Try.results5]
    refine ⟨⟨by simp only [maxLen]; omega, by omega⟩, ?_⟩
    exact Wk.keep [1, 3, 4, 7] [0, 2] (by decide) (Nat.le_refl _) hbd ⟨S.procs.length - (j + 1), by omega, j + 1, acc ++ q, by omega, rfl, hnx.symm, by (simp only [go_sem, List.length_append]) <;> rfl, by rw [List.map_append, flat_append]; (simp only [go_sem]) <;> rfl⟩
  have hd : decide ((j : Int) < (S.procs.length : Int)) = false := by simp; omega
  obtain rfl : j = S.procs.length := by omega
  simp only [go_sem, List.length_map, hd, Try.results5]
  clear hd hge hm hj hb
  have hall : acc = aloneM S := by rw [hacc, hp2, hp1, hp0, List.nil_append]; rfl
  have hlaw := locality_law S h2
  rw [← hall] at hlaw
  clear hall hacc
  refine aw_plan (.tk 3 0 <| .tk 2 4 <| .pure 3 <| .tk 6 6 <| .done) (by kernel_rfl) ?_
  simp only [go_sem, List.length_map, Try.results5]
  have hck := checkF_ac hS hF
  have hcl := check_len S
  rw [hlaw] at hck
  refine exQ (dgsD (acc.take 20)) ⟨fun _ => ?_, ?_⟩
  · simp only [go_sem, Try.results5]
    intro σ'
    rw [← hsy]
    exact ac' (hck _ _ _ ⟨rfl, rfl⟩)
  simp only [dgsD, go_sem, List.length_map, Try.results5]
  have hmin : (min (acc.length : Int) 20).toNat = ((acc.take 20).map dgD).length := by simp; omega
  refine ⟨⟨by omega, by omega⟩, exs ⟨fun _ => ?_, fun h => Bool.noConfusion h⟩⟩
  simp only [go_sem, Try.results5]
  refine ac' (ac_frz 1 2 0 ((acc.take 20).map dgD) rfl (by rw [List.map_take]; exact lies_take 20 (lies_dgs acc)) ?_)
  have hfz : frzL (σ.length + 1) 2 0 ((acc.take 20).map dgD) [A.d (D.sl 2 ((acc.take 20).map dgD)), A.rs (σ.length + 1) 2 0 (min (acc.length : Int) 20).toNat (some 75)] = [.d (dgsD (acc.take 20)), .d (dgsD (acc.take 20))] := by
    rw [hmin]; simp [frzL, A.frz, dgsD]
  rw [hfz]
  have hlt : (acc.take 20).length ≤ reachBytes := by
    have : 20 ≤ reachBytes := by decide
    simp; omega
  refine same_ac _ _ hlt hlt _ _ _ ?_
  rw [beq_self_eq_true]
  simp only [go_sem, Try.results5]
  exact ret_bd hbd rfl h
end Go.Proofs.Ytfoblkeefpaceaa
end PartW5

section PartW7
/- The law of offsets. -/
set_option linter.unusedSimpArgs false
set_option linter.unusedVariables false
set_option maxRecDepth 100000
namespace Go.Proofs.Ytfoblkeefpaceaa
open Go Go.Ab

theorem mid_set {P M : List A} {n : Nat} (h : P.length = n) (k : Nat) (x : A) : (P ++ M).set (n + k) x = P ++ M.set k x := by
  subst h; rw [List.set_append_right _ _ (by omega), Nat.add_sub_cancel_left]
theorem mid_getD {P M : List A} {n : Nat} (h : P.length = n) (k : Nat) : (P ++ M).getD (n + k) A.any = M.getD k A.any := by
  subst h; rw [List.getD_eq_getElem?_getD, List.getD_eq_getElem?_getD, List.getElem?_append_right (by omega), Nat.add_sub_cancel_left]
theorem mid_get {P M : List A} {n : Nat} (h : P.length = n) (k : Nat) : (P ++ M)[n + k]? = M[k]? := by
  subst h; rw [List.getElem?_append_right (by omega), Nat.add_sub_cancel_left]
def at0 (e : Nd) : Nd := .mk e.kind e.name e.other e.n e.len e.init e.ghost e.kids 0
def stMo (m : Mo) : Mo := { m with rely := stripM m.rely, guar := stripM m.guar, frame := m.frame.map at0 }
def stLk (l : Lk) : Lk := { l with inv := stripM l.inv }
def stPr (p : Pr) : Pr := { p with body := stripM p.body }
theorem stripS_eq (S : Sy) : stripS S = ⟨S.mods.map stMo, S.vars, S.locks.map stLk, S.procs.map stPr, S.threads⟩ := rfl
theorem pick_never {α : Type} (f g : α → D) (l : List α) : pickD f g (-1) l = l.map g := by
  have : ∀ x : α × Nat, (if (x.2 : Int) = -1 then f x.1 else g x.1) = g x.1 := fun x => if_neg (by omega)
  unfold pickD
  simp only [this]
  conv => rhs; rw [← List.zipIdx_map_fst 0 l]
  rw [List.map_map]; rfl
theorem short_mo {S : Sy} (h : shortM S = true) {j : Nat} (hj : j < S.mods.length) : shMo (S.mods.getD j mo0) = true := by
  unfold shortM at h
  simp only [Bool.and_eq_true, List.all_eq_true] at h
  exact h.1.1.2 _ (getD_mem mo0 hj)
theorem kid_d' {l : List Nd} {j : Nat} (h : j < l.length) : List.getD (l.map Nd.d) j default = .agg [iD (l.getD j Nd.none).kind, .str (l.getD j Nd.none).name, .str (l.getD j Nd.none).other, iD (l.getD j Nd.none).n, iD (l.getD j Nd.none).len, iD (l.getD j Nd.none).init, .bool (l.getD j Nd.none).ghost, .sl 9 ((l.getD j Nd.none).kids.map Nd.d), iD (l.getD j Nd.none).pos] := by
  rw [getD_mapD (d := Nd.none) h, Nd.d_eq]
theorem frz_append (id sz off : Nat) (xs : List D) (a b : List A) : frzL id sz off xs (a ++ b) = frzL id sz off xs a ++ frzL id sz off xs b := by simp [frzL_eq]
theorem frz_flat (id sz off : Nat) (xs l : List D) : frzL id sz off xs (flat l) = flat l := by
  rw [frzL_eq]
  unfold flat
  rw [List.map_flatMap]
  congr 1
  funext x
  rw [List.map_map]; rfl
theorem short_locks {S : Sy} (h : shortM S = true) {j : Nat} (hj : j < S.locks.length) : smallM (S.locks.getD j lk0).inv = true := by
  unfold shortM at h
  simp only [Bool.and_eq_true, List.all_eq_true] at h
  exact h.1.2 _ (getD_mem lk0 hj)
theorem short_procs {S : Sy} (h : shortM S = true) {j : Nat} (hj : j < S.procs.length) : smallM (S.procs.getD j pr0).body = true := by
  unfold shortM at h
  simp only [Bool.and_eq_true, List.all_eq_true] at h
  have := h.2 _ (getD_mem pr0 hj)
  unfold shPr at this
  simp only [Bool.and_eq_true] at this
  exact this.1.1
theorem pr_get {l : List Pr} {i : Nat} (h : i < l.length) : List.getD (l.map prD) i default = prD (l.getD i pr0) := getD_mapD (d := pr0) h
theorem strip_okN : ∀ e : Nd, (e.Ok → (stripM e).Ok) ∧ (stripM e).nodes = e.nodes := by
  refine Nd.ind (by rw [strip_none]; exact ⟨fun h => h, rfl⟩) fun e _ hk => ⟨fun hok => ?_, ?_⟩
  · refine .mk (by rw [strip_kids, List.length_map]; exact hok.len) (by rw [strip_name]; exact hok.nm) (by rw [strip_n]; exact hok.num) fun k hm => ?_
    rw [strip_kids] at hm
    obtain ⟨y, hy, rfl⟩ := List.mem_map.1 hm
    exact (hk y hy).1 (by cases hok with | mk _ _ _ h => exact h y hy)
  · rw [Nd.nodes_eq, Nd.nodes_eq e, strip_kids, List.map_map]
    congr 2
    exact List.map_congr_left fun k hk' => (hk k hk').2
theorem strip_fit {e : Nd} (h : smallM e = true) : FitB [] (stripM e) := fit_nil (by rw [(strip_okN e).2]; unfold smallM at h; simp at h; omega)
theorem at0_ok {e : Nd} (h : e.Ok) : (at0 e).Ok := .mk h.len h.nm h.num (by cases h with | mk _ _ _ h => exact h)
theorem stripS_ok {S : Sy} (h : S.Ok) : (stripS S).Ok := by
  rw [stripS_eq]
  refine ⟨by simpa using h.mods, h.vars, by simpa using h.locks, by simpa using h.procs, h.threads, fun m hm => ?_, h.va, fun l hl => ?_, fun p hp => ?_⟩
  · obtain ⟨x, hx, rfl⟩ := List.mem_map.1 hm
    have := h.mo x hx
    refine ⟨(strip_okN _).1 this.rely, (strip_okN _).1 this.guar, by simpa [stMo] using this.len, fun e he => ?_⟩
    obtain ⟨y, hy, rfl⟩ := List.mem_map.1 he
    exact at0_ok (this.frame y hy)
  · obtain ⟨x, hx, rfl⟩ := List.mem_map.1 hl
    exact (strip_okN _).1 (h.lo x hx)
  · obtain ⟨x, hx, rfl⟩ := List.mem_map.1 hp
    have := h.pr x hx
    exact ⟨this.params, this.locals, this.vp, this.vl, (strip_okN _).1 this.body⟩
theorem stripS_fit {S : Sy} (h : shortM S = true) : (stripS S).Fit := by
  rw [stripS_eq]
  unfold shortM at h
  simp only [Bool.and_eq_true, List.all_eq_true] at h
  obtain ⟨⟨⟨-, h1⟩, h2⟩, h3⟩ := h
  refine ⟨fun m hm => ?_, fun l hl => ?_, fun p hp => ?_⟩
  · obtain ⟨x, hx, rfl⟩ := List.mem_map.1 hm
    have := h1 x hx
    unfold shMo at this
    simp only [Bool.and_eq_true] at this
    exact ⟨strip_fit this.1.1, strip_fit this.1.2⟩
  · obtain ⟨x, hx, rfl⟩ := List.mem_map.1 hl
    exact strip_fit (h2 x hx)
  · obtain ⟨x, hx, rfl⟩ := List.mem_map.1 hp
    have := h3 x hx
    unfold shPr at this
    simp only [Bool.and_eq_true] at this
    exact strip_fit this.1.1
theorem width_len7 (S : Sy) (m p : Int) (e : Nd) (w : Int) : (widthR S m p e w).2.length ≤ 20 := by
  unfold widthR
  split
  · simp only [List.length_take]; omega
  · simp
abbrev tO (S : Sy) (n : Nat) : Option Ob := some (.cells [.rs (n + 2) 22 0 S.mods.length (some 59), .d (vrsD S.vars), .rs (n + 3) 12 0 S.locks.length (some 61), .rs (n + 4) 16 0 S.procs.length (some 63), .d (.sl 5 (S.threads.map thD))])
set_option maxHeartbeats 32000000 in
theorem law7_ac {S : Sy} (hS : S.Ok) (m p : Int) {e : Nd} (hok : e.Ok) (want : Int) (σ : St) (G : Glob) (R : A → St → Prop) (h : R (db true) σ) : AC Try.prog G 7 [.d (syD S), di m, di p, .d e.d, di want] σ R := by
  have hsy : syD S = .agg [.sl 22 (S.mods.map moD), vrsD S.vars, .sl 12 (S.locks.map lkD), .sl 16 (S.procs.map prD), .sl 5 (S.threads.map thD)] := rfl
  rw [hsy, Nd.d_eq]
  refine ac_enterC' [4, 27] mixed Try.func7 rfl Try.ntmps7 (by simp only [go_sem]) fun hbd => ?_
  simp only [List.length_cons, List.length_nil, Nat.reduceAdd, Nat.reduceSub, List.replicate_succ, List.replicate_zero, List.cons_append, List.nil_append]
  simp only [go_sem, Try.results7]
  refine ac' (head_ac _ _ _ ?_)
  simp only [go_sem, Try.results7]
  refine aw_cut (fun fr st => shortM S = true ∧ smallM e = true ∧ fr = [.any, di m, di p, .any, di want, .ref σ.length 0, .any, .any, .ref (σ.length + 1) 0, .any, .any, db true, .any, .any, .any, .any, .any, .any, .any, .any, .any, .any, .any, .any, .any, .any, .any, .any, .any, .any, .any, .any, .any, .any, .any, .any, .any, .any, .any, .any, .any, .any, .any, .any, .any, .any, .any, .any, .any, .any, .any, .any, .any, .any, .any, .any, .any, .any, .any, .any, .any, .any, .any, .any, .any, .any, .any, .any, .any, .any, .any, .any, .any, .any, .any, .any, .any, .any, .any, .any, .any, .any, .any, .any, .any, .any, .any, .any, .any, .any, .any, .any, .any, .any, .any, .any, .any, .any, .any, .any, .any, .any, .any, .any, .any, .any, .any, .any, .any, .any, .any, .any, .any, .any, .any, .any, .any, .any, .any, .any, .any, .any, .any, .any, .any, .any, .any, .any, .any, .any, .any, .any, .any, .any, .any, .any, .any, .any, .any, .any, .any, .any, .any, .any, .any, .any, .any, .any, .any, .any, .any, .any, .any, .any, .any, .any, .any, .any, .any, .any, .any, .any, .any, .any, .any, .any, .any, .any, .any, .any, .any, .any, .any, .any, .any, .any, .any, .any, .any, .any, .any, .any, .any, .any, .any, .any, .any, .any, .any, .any, .any, .any] ∧ st = σ ++ [scs S, ncs e]) ?_ ?_
  · simp only [go_sem, Try.results7]
    rw [← hsy]
    refine ac' (short_ac S hS _ _ _ ?_)
    simp only [go_sem, Try.results7]
    refine ex' (.bool (smallM e)) ⟨fun q => ?_, ?_⟩
    · simp only [go_sem, Try.results7]
      rw [← Nd.d_eq]
      exact ⟨by simpa using q, ac' (small_ac hok _ _ _ ⟨rfl, rfl⟩)⟩
    simp only [go_sem, Try.results7]
    refine ⟨fun q => by simpa using q, fun c => ret_bd hbd rfl h, fun c => ?_⟩
    simp only [Bool.or_eq_false_iff, Bool.not_eq_false'] at c
    exact Wk.keep [1, 2, 4, 5, 8, 11] [0, 1] (by decide) (Nat.le_refl _) hbd ⟨c.1, c.2, by (simp only [go_sem]) <;> rfl, by (simp only [go_sem]) <;> rfl⟩
  rintro fr st ⟨h1, h2, rfl, rfl⟩
  have hn : e.nodes ≤ 10000 := by unfold smallM at h2; simp at h2; omega
  have hF := short_fit h1
  obtain ⟨hs1, hs2, hs3⟩ := short_lens h1
  simp only [go_sem, Try.results7]
  rw [← hsy]
  refine ac' (only_own hS hs1 hs2 hs3 (-1) (-1) (-1) _ _ _ ?_)
  rw [pick_never, pick_never, pick_never]
  simp only [go_sem, Try.results7]
  refine aw_loop (fun q fr st => ∃ j : Nat, j ≤ S.mods.length ∧ q = S.mods.length - j ∧ fr = [.any, di m, di p, .any, di want, .ref σ.length 0, .any, .any, .ref (σ.length + 1) 0, .any, .any, db true, .ref (σ.length + 5) 0, dn j, .any, .any, .any, .any, .any, .any, .any, .any, .any, .any, .any, .any, .any, .any, .any, .any, .any, .any, .any, .any, .any, .any, .any, .any, .any, .any, .any, .any, .any, .any, .any, .any, .any, .any, .any, .any, .any, .any, .any, .any, .any, .any, .any, .any, .any, .any, .any, .any, .any, .any, .any, .any, .any, .any, .any, .any, .any, .any, .any, .any, .any, .any, .any, .any, .any, .any, .any, .any, .any, .any, .any, .any, .any, .any, .any, .any, .any, .any, .any, .any, .any, .any, .any, .any, .any, .any, .any, .any, .any, .any, .any, .any, .any, .any, .any, .any, .any, .any, .any, .any, .any, .any, .any, .any, .any, .any, .any, .any, .any, .any, .any, .any, .any, .any, .any, .any, .any, .any, .any, .any, .any, .any, .any, .any, .any, .any, .any, .any, .any, .any, .any, .any, .any, .any, .any, .any, .any, .any, .any, .any, .any, .any, .any, .any, .any, .any, .any, .any, .any, .any, .any, .any, .any, .any, .any, .any, .any, .any, .any, .any, .any, .any, .any, .any, .any, .any, .any, .any, .any, .any, .any, .any, .any, .any, .any, .any, .any, .any] ∧
    st = σ ++ [scs S, ncs e, some (.cells (flat ((S.mods.map fun v => moD (stMo v)).take j) ++ flat ((S.mods.map moZ).drop j))), some (.cells (flat (S.locks.map lkZ))), some (.cells (flat (S.procs.map prZ))), tO S σ.length]) S.mods.length _ ?_ ?_
  · exact Wk.mask [1, 2, 4, 5, 8, 11, 12, 13] ⟨0, by omega, by omega, rfl, rfl⟩
  rintro q fr st ⟨j, hj, hq, rfl, rfl⟩
  rcases Nat.lt_or_ge j S.mods.length with hlt | hge
  · have hd : decide ((j : Int) < (S.mods.length : Int)) = true := by simp; omega
    have w1 := wrapS j (by omega)
    have e0 := mo_get hlt
    have e1 := map_drop moZ S.mods mo0 hlt
    have e2 : (S.mods.map fun v => moD (stMo v)).take (j + 1) = (S.mods.map fun v => moD (stMo v)).take j ++ [moD (stMo (S.mods.getD j mo0))] := by
      rw [← List.map_take, take_getD mo0 hlt, List.map_append, List.map_take]; rfl
    have hP : (flat ((S.mods.map fun v => moD (stMo v)).take j)).length = j * 22 := by
      rw [flat_len (sz := 22), List.length_take, List.length_map, Nat.min_eq_left hj]
      intro x hx
      obtain ⟨y, -, rfl⟩ := List.mem_map.1 (List.mem_of_mem_take hx)
      rfl
    have hmo := hS.mo _ (getD_mem mo0 hlt)
    have hsh : shMo (S.mods.getD j mo0) = true := short_mo h1 hlt
    generalize S.mods.getD j mo0 = v at e0 e1 e2 hmo hsh
    have hvd : moD v = .agg [.str v.name, .str v.owner, iD v.rely.kind, .str v.rely.name, .str v.rely.other, iD v.rely.n, iD v.rely.len, iD v.rely.init, .bool v.rely.ghost, .sl 9 (v.rely.kids.map Nd.d), iD v.rely.pos, iD v.guar.kind, .str v.guar.name, .str v.guar.other, iD v.guar.n, iD v.guar.len, iD v.guar.init, .bool v.guar.ghost, .sl 9 (v.guar.kids.map Nd.d), iD v.guar.pos, .sl 9 (v.frame.map Nd.d), iD v.pos] := rfl
    rw [hvd] at e0
    rw [e1, flat_cons']
    have hvz : (moZ v).cells.map A.d = [.d (.str v.name), .d (.str v.owner), di 63, .d (.str []), .d (.str []), di 0, di 0, di 0, db false, .d .nils, di 0, di 63, .d (.str []), .d (.str []), di 0, di 0, di 0, db false, .d .nils, di 0, .d .nils, di v.pos] := rfl
    rw [hvz]
    generalize (S.mods.map fun v => moD (stMo v)).take j = P at hP e2
    generalize hQ : (S.mods.map moZ).drop (j + 1) = Q
    have t1 := fun (M : List A) (k : Nat) => mid_take (M := M) hP k
    have d1 := fun (M : List A) (k : Nat) => mid_drop (M := M) hP k
    have hshq := hsh
    unfold shMo at hshq
    simp only [Bool.and_eq_true, decide_eq_true_eq] at hshq
    obtain ⟨⟨hr1, hr2⟩, hfl⟩ := hshq
    have hra := strip_ac v.rely (by unfold smallM at hr1; simp at hr1; omega)
    have hgu := strip_ac v.guar (by unfold smallM at hr2; simp at hr2; omega)
    have e2' : stMo v = { v with rely := stripM v.rely, guar := stripM v.guar, frame := v.frame.map at0 } := rfl
    rw [e2'] at e2
    generalize stripM v.rely = ra at hra e2
    generalize stripM v.guar = gu at hgu e2
    simp only [go_sem, List.length_map, hd, w1, e0, Try.results7]
    refine aw_plan (.tk 7 2 <| .pure 9 <| .tk 2 0 <| .tk 3 10 <| .done) (by kernel_rfl) ?_
    simp only [go_sem, List.length_map, hd, w1, e0, Try.results7]
    refine ⟨⟨by omega, by omega⟩, ?_⟩
    refine exP (.d (.agg [iD ra.kind, .str ra.name, .str ra.other, iD ra.n, iD ra.len, iD ra.init, .bool ra.ghost, .sl 9 (ra.kids.map Nd.d), iD ra.pos])) ⟨fun σ' => ?_, ?_⟩
    · simp only [go_sem, Try.results7]
      rw [← Nd.d_eq, ← Nd.d_eq]
      exact ac' (hra _ _ _ ⟨rfl, rfl⟩)
    simp only [go_sem, List.length_map, w1, e0, hP, t1, d1, Nat.add_assoc, Nat.reduceAdd, List.append_assoc, List.cons_append, List.nil_append, List.take_succ_cons, List.drop_succ_cons, List.take_zero, List.drop_zero, Try.results7]
    refine ⟨by omega, by omega, ?_⟩
    refine aw_plan (.tk 7 2 <| .pure 9 <| .tk 2 0 <| .tk 3 10 <| .done) (by kernel_rfl) ?_
    simp only [go_sem, List.length_map, hd, w1, e0, Try.results7]
    refine ⟨⟨by omega, by omega⟩, ?_⟩
    refine exP (.d (.agg [iD gu.kind, .str gu.name, .str gu.other, iD gu.n, iD gu.len, iD gu.init, .bool gu.ghost, .sl 9 (gu.kids.map Nd.d), iD gu.pos])) ⟨fun σ' => ?_, ?_⟩
    · simp only [go_sem, Try.results7]
      rw [← Nd.d_eq, ← Nd.d_eq]
      exact ac' (hgu _ _ _ ⟨rfl, rfl⟩)
    simp only [go_sem, List.length_map, w1, e0, hP, t1, d1, Nat.add_assoc, Nat.reduceAdd, List.append_assoc, List.cons_append, List.nil_append, List.take_succ_cons, List.drop_succ_cons, List.take_zero, List.drop_zero, Try.results7]
    refine ⟨by omega, by omega, ?_⟩
    refine aw_loop (fun q' fr st => ∃ k : Nat, k ≤ v.frame.length ∧ q' = v.frame.length - k ∧ fr = [.any, di m, di p, .any, di want, .ref σ.length 0, .any, .any, .ref (σ.length + 1) 0, .any, .any, db true, .ref (σ.length + 5) 0, dn j, dn k, .any, .any, .any, .any, .any, .any, .any, .any, .any, .any, .any, .any, .any, .any, .any, .any, .any, .any, .any, .any, .any, .any, .any, .any, .any, .any, .any, .any, .any, .any, .any, .any, .any, .any, .any, .any, .any, .any, .any, .any, .any, .any, .any, .any, .any, .any, .any, .any, .any, .any, .any, .any, .any, .any, .any, .any, .any, .any, .any, .any, .any, .any, .any, .any, .any, .any, .any, .any, .any, .any, .any, .any, .any, .any, .any, .any, .any, .any, .any, .any, .any, .any, .any, .any, .any, .any, .any, .any, .any, .any, .any, .any, .any, .any, .any, .any, .any, .any, .any, .any, .any, .any, .any, .any, .any, .any, .any, .any, .any, .any, .any, .any, .any, .any, .any, .any, .any, .any, .any, .any, .any, .any, .any, .any, .any, .any, .any, .any, .any, .any, .any, .any, .any, .any, .any, .any, .any, .any, .any, .any, .any, .any, .any, .any, .any, .any, .any, .any, .any, .any, .any, .any, .any, .any, .any, .any, .any, .any, .any, .any, .any, .any, .any, .any, .any, .any, .any, .any, .any, .any, .any, .any, .any, .any, .any, .any, .any] ∧
      st = σ ++ [scs S, ncs e, some (.cells (flat P ++ ([.d (.str v.name), .d (.str v.owner), di ra.kind, .d (.str ra.name), .d (.str ra.other), di ra.n, di ra.len, di ra.init, db ra.ghost, .d (.sl 9 (ra.kids.map Nd.d)), di ra.pos, di gu.kind, .d (.str gu.name), .d (.str gu.other), di gu.n, di gu.len, di gu.init, db gu.ghost, .d (.sl 9 (gu.kids.map Nd.d)), di gu.pos, .rs (σ.length + 6) 9 0 k (some 31), di v.pos] ++ flat Q))), some (.cells (flat (S.locks.map lkZ))), some (.cells (flat (S.procs.map prZ))), tO S σ.length, some (.cells (flat (((v.frame.take k).map at0).map Nd.d)))]) v.frame.length _ ?_ ?_
    · refine Wk.via (Weak.emptyIn (σ := σ) 2 (j * 22 + 20) 9 (some 31) rfl (by rw [mid_get hP]; rfl)) ?_
      rw [mid_set hP]
      exact Wk.mask [1, 2, 4, 5, 8, 11, 12, 13, 14] ⟨0, by omega, by omega, rfl, rfl⟩
    rintro q' fr st ⟨k, hk, hq', rfl, rfl⟩
    rcases Nat.lt_or_ge k v.frame.length with hkl | hkg
    · have hd2 : decide ((k : Int) < (v.frame.length : Int)) = true := by simp; omega
      have w2 := wrapS k (by omega)
      have g1 := fun (M : List A) (k : Nat) => mid_getD (M := M) hP k
      have hz := fun fr : Fr => (rfl : ev G fr (Operand.const (Value.agg #[Value.int IntKind.i64 0, Value.string { data := #[] }, Value.string { data := #[] }, Value.int IntKind.i64 0, Value.int IntKind.i64 0, Value.int IntKind.i64 0, Value.bool false, Value.slice none 0 0, Value.int IntKind.i64 0])) = .d (.agg [iD 0, .str [], .str [], iD 0, iD 0, iD 0, .bool false, .nils, iD 0]))
      have e3 := kid_d' hkl
      have hfl2 := flat_nds_len ((v.frame.take k).map at0)
      rw [List.length_map, List.length_take, Nat.min_eq_left hk] at hfl2
      have htk : (v.frame.take (k + 1)).map at0 = (v.frame.take k).map at0 ++ [at0 (v.frame.getD k Nd.none)] := by rw [take_getD Nd.none hkl, List.map_append]; rfl
      generalize v.frame.getD k Nd.none = x at e3 htk
      simp only [go_sem, List.length_map, hd2, w2, e0, e3, hP, t1, d1, Nat.add_assoc, Nat.reduceAdd, List.append_assoc, List.cons_append, List.nil_append, List.take_succ_cons, List.drop_succ_cons, List.take_zero, List.drop_zero, Try.results7]
      refine ⟨by omega, by omega, by omega, ?_⟩
      refine aw_plan (.take 0 <| .alt 1 (.tk 2 2 <| .done) <| .alt 2 (.take 1 <| .take 3 <| .done) <| .stop) (by kernel_rfl) ?_
      simp only [go_sem, Try.results7]
      refine ⟨?_, ?_⟩
      · refine aw_plan (.tk 8 2 <| .alt 0 (.alt 1 (.tk 5 10 <| .done) <| .alt 10 (.alt 1 (.tk 4 11 <| .done) <| .alt 11 (.take 1 <| .tk 3 12 <| .done) <| .stop) <| .stop) <| .alt 10 (.alt 0 (.alt 1 (.tk 4 11 <| .done) <| .alt 11 (.take 1 <| .tk 3 12 <| .done) <| .stop) <| .alt 11 (.tk 2 0 <| .tk 3 12 <| .done) <| .stop) <| .stop) (by kernel_rfl) ?_
        simp only [go_sem, List.length_map, hd2, w2, e0, e3, hfl2, g1, hz, ↓hz, List.getD_cons_succ, List.getD_cons_zero, hP, t1, d1, Nat.add_assoc, Nat.reduceAdd, List.append_assoc, List.cons_append, List.nil_append, List.take_succ_cons, List.drop_succ_cons, List.take_zero, List.drop_zero, Try.results7]
        refine ⟨by omega, by omega, ⟨by simp only [maxLen]; omega, by omega⟩, by omega, by omega, ?_⟩
        exact Wk.keep [1, 2, 4, 5, 8, 11, 12, 13, 14] [0, 1, 2, 3, 4, 5, 10] (by decide) (Nat.le_refl _) hbd ⟨v.frame.length - (k + 1), by omega, k + 1, by omega, rfl, by (simp only [go_sem]) <;> rfl, by
          rw [htk, flat_nd_snoc]
          (simp only [go_sem, Nd.cs]) <;> rfl⟩
      · refine aw_plan (.tk 13 0 <| .done) (by kernel_rfl) ?_
        simp only [go_sem, List.length_map, hd2, w2, e0, e3, hfl2, g1, hz, ↓hz, List.getD_cons_succ, List.getD_cons_zero, hP, t1, d1, Nat.add_assoc, Nat.reduceAdd, List.append_assoc, List.cons_append, List.nil_append, List.take_succ_cons, List.drop_succ_cons, List.take_zero, List.drop_zero, Try.results7]
        simp only [ev, constA, List.map_cons, List.map_nil, ofV, toDs, Option.map_some, List.all_cons, List.all_nil, D.one, Bool.and_true, if_true]
        refine ⟨by omega, by omega, rfl, ⟨by decide, by simp only [maxLen]; omega, by omega⟩, by omega, by omega, by omega, by simp, ?_⟩
        have u1 : ∀ M : List A, (flat (((v.frame.take k).map at0).map Nd.d) ++ M).take (k * 9) = flat (((v.frame.take k).map at0).map Nd.d) := fun M => List.take_left' hfl2
        have u2 := fun (M : List A) => mid_drop (M := M) hfl2 9
        simp only [go_sem, u1, u2, List.take_succ_cons, List.take_zero, List.drop_succ_cons, List.drop_zero]
        exact Wk.keep [1, 2, 4, 5, 8, 11, 12, 13, 14] [0, 1, 2, 3, 4, 5, 10] (by decide) (Nat.le_refl _) hbd ⟨v.frame.length - (k + 1), by omega, k + 1, by omega, rfl, by (simp only [go_sem]) <;> rfl, by
          rw [htk, flat_nd_snoc]
          (simp only [go_sem, Nd.cs]) <;> rfl⟩
    · have hd2 : decide ((k : Int) < (v.frame.length : Int)) = false := by simp; omega
      obtain rfl : k = v.frame.length := by omega
      simp only [go_sem, List.length_map, hd2, w1, e0, hP, t1, d1, Nat.add_assoc, Nat.reduceAdd, List.append_assoc, List.cons_append, List.nil_append, List.take_succ_cons, List.drop_succ_cons, List.take_zero, List.drop_zero, Try.results7]
      refine ⟨by omega, Wk.via (Weak.freezeIn (σ := σ) 6 2 9 0 ((v.frame.map at0).map Nd.d) rfl (lies_nds _) rfl (by decide)) ?_⟩
      have hc : frzL (σ.length + 6) 9 0 ((v.frame.map at0).map Nd.d) (flat P ++ (.d (.str v.name) :: .d (.str v.owner) :: ([di ra.kind, .d (.str ra.name), .d (.str ra.other), di ra.n, di ra.len, di ra.init, db ra.ghost, .d (.sl 9 (ra.kids.map Nd.d)), di ra.pos] ++ ([di gu.kind, .d (.str gu.name), .d (.str gu.other), di gu.n, di gu.len, di gu.init, db gu.ghost, .d (.sl 9 (gu.kids.map Nd.d)), di gu.pos] ++ (.rs (σ.length + 6) 9 0 v.frame.length (some 31) :: di v.pos :: flat Q))))) = flat (P ++ [moD { v with rely := ra, guar := gu, frame := v.frame.map at0 }]) ++ flat Q := by
        rw [frz_append, frz_flat, flat_append, List.append_assoc]
        congr 1
        simp only [List.cons_append, List.nil_append, frzL, A.frz, frz_flat, List.length_map, beq_self_eq_true, and_self, if_true]
        rfl
      simp only [List.cons_append, List.nil_append] at hc
      simp only [List.set_cons_succ, List.set_cons_zero, hc]
      rw [← e2, ← hQ]
      exact Wk.keep [1, 2, 4, 5, 8, 11, 12, 13] [0, 1, 2, 3, 4, 5] (by decide) (Nat.le_refl _) hbd ⟨S.mods.length - (j + 1), by omega, j + 1, by omega, rfl, by (simp only [go_sem]) <;> rfl, by (simp only [go_sem]) <;> rfl⟩
  have hd : decide ((j : Int) < (S.mods.length : Int)) = false := by simp; omega
  obtain rfl : j = S.mods.length := by omega
  have e3 : (S.mods.map fun v => moD (stMo v)).take S.mods.length = S.mods.map fun v => moD (stMo v) := List.take_of_length_le (by rw [List.length_map]; exact Nat.le_refl _)
  have e4 : (S.mods.map moZ).drop S.mods.length = [] := List.drop_of_length_le (by rw [List.length_map]; exact Nat.le_refl _)
  have e5 : flat [] = [] := rfl
  simp only [go_sem, List.length_map, hd, e3, e4, e5, List.append_nil, Try.results7]
  clear hd e3 e4 e5 hge hq hj
  refine aw_loop (fun q fr st => ∃ j : Nat, j ≤ S.locks.length ∧ q = S.locks.length - j ∧ fr = [.any, di m, di p, .any, di want, .ref σ.length 0, .any, .any, .ref (σ.length + 1) 0, .any, .any, db true, .ref (σ.length + 5) 0, .any, .any, .any, dn j, .any, .any, .any, .any, .any, .any, .any, .any, .any, .any, .any, .any, .any, .any, .any, .any, .any, .any, .any, .any, .any, .any, .any, .any, .any, .any, .any, .any, .any, .any, .any, .any, .any, .any, .any, .any, .any, .any, .any, .any, .any, .any, .any, .any, .any, .any, .any, .any, .any, .any, .any, .any, .any, .any, .any, .any, .any, .any, .any, .any, .any, .any, .any, .any, .any, .any, .any, .any, .any, .any, .any, .any, .any, .any, .any, .any, .any, .any, .any, .any, .any, .any, .any, .any, .any, .any, .any, .any, .any, .any, .any, .any, .any, .any, .any, .any, .any, .any, .any, .any, .any, .any, .any, .any, .any, .any, .any, .any, .any, .any, .any, .any, .any, .any, .any, .any, .any, .any, .any, .any, .any, .any, .any, .any, .any, .any, .any, .any, .any, .any, .any, .any, .any, .any, .any, .any, .any, .any, .any, .any, .any, .any, .any, .any, .any, .any, .any, .any, .any, .any, .any, .any, .any, .any, .any, .any, .any, .any, .any, .any, .any, .any, .any, .any, .any, .any, .any, .any, .any, .any, .any, .any, .any, .any, .any] ∧
    st = σ ++ [scs S, ncs e, some (.cells (flat (S.mods.map fun v => moD (stMo v)))), some (.cells (flat ((S.locks.map fun v => lkD (stLk v)).take j) ++ flat ((S.locks.map lkZ).drop j))), some (.cells (flat (S.procs.map prZ))), tO S σ.length]) S.locks.length _ ?_ ?_
  · exact Wk.mask [1, 2, 4, 5, 8, 11, 12, 16] ⟨0, by omega, by omega, rfl, rfl⟩
  rintro q fr st ⟨j, hj, hq, rfl, rfl⟩
  rcases Nat.lt_or_ge j S.locks.length with hlt | hge
  · have hd : decide ((j : Int) < (S.locks.length : Int)) = true := by simp; omega
    have w1 := wrapS j (by omega)
    have e0 := lk_get hlt
    have e1 := map_drop lkZ S.locks lk0 hlt
    have e2 : (S.locks.map fun v => lkD (stLk v)).take (j + 1) = (S.locks.map fun v => lkD (stLk v)).take j ++ [lkD (stLk (S.locks.getD j lk0))] := by
      rw [← List.map_take, take_getD lk0 hlt, List.map_append, List.map_take]; rfl
    have hP : (flat ((S.locks.map fun v => lkD (stLk v)).take j)).length = j * 12 := by
      rw [flat_len (sz := 12), List.length_take, List.length_map, Nat.min_eq_left hj]
      intro x hx
      obtain ⟨y, -, rfl⟩ := List.mem_map.1 (List.mem_of_mem_take hx)
      rfl
    have hsm : smallM (S.locks.getD j lk0).inv = true := short_locks h1 hlt
    generalize S.locks.getD j lk0 = v at e0 e1 e2 hsm
    have hvd : lkD v = .agg [.str v.name, iD v.mod, iD v.inv.kind, .str v.inv.name, .str v.inv.other, iD v.inv.n, iD v.inv.len, iD v.inv.init, .bool v.inv.ghost, .sl 9 (v.inv.kids.map Nd.d), iD v.inv.pos, iD v.pos] := rfl
    rw [hvd] at e0
    rw [e1, flat_cons']
    have hvz : (lkZ v).cells.map A.d = [.d (.str v.name), di v.mod, di 63, .d (.str []), .d (.str []), di 0, di 0, di 0, db false, .d .nils, di 0, di v.pos] := rfl
    rw [hvz]
    generalize (S.locks.map fun v => lkD (stLk v)).take j = P at hP e2
    generalize hQ : (S.locks.map lkZ).drop (j + 1) = Q
    have t1 := fun (M : List A) (k : Nat) => mid_take (M := M) hP k
    have d1 := fun (M : List A) (k : Nat) => mid_drop (M := M) hP k
    have hra := strip_ac v.inv (by unfold smallM at hsm; simp at hsm; omega)
    have e2' : stLk v = { v with inv := stripM v.inv } := rfl
    rw [e2'] at e2
    generalize stripM v.inv = ra at hra e2
    simp only [go_sem, List.length_map, hd, w1, e0, Try.results7]
    refine aw_plan (.tk 7 2 <| .pure 9 <| .tk 2 0 <| .tk 3 10 <| .done) (by kernel_rfl) ?_
    simp only [go_sem, List.length_map, hd, w1, e0, Try.results7]
    refine ⟨⟨by omega, by omega⟩, ?_⟩
    refine exP (.d (.agg [iD ra.kind, .str ra.name, .str ra.other, iD ra.n, iD ra.len, iD ra.init, .bool ra.ghost, .sl 9 (ra.kids.map Nd.d), iD ra.pos])) ⟨fun σ' => ?_, ?_⟩
    · simp only [go_sem, Try.results7]
      rw [← Nd.d_eq, ← Nd.d_eq]
      exact ac' (hra _ _ _ ⟨rfl, rfl⟩)
    simp only [go_sem, List.length_map, w1, e0, hP, t1, d1, Nat.add_assoc, Nat.reduceAdd, List.append_assoc, List.cons_append, List.nil_append, List.take_succ_cons, List.drop_succ_cons, List.take_zero, List.drop_zero, Try.results7]
    refine ⟨by omega, by omega, ?_⟩
    refine Wk.mask [1, 2, 4, 5, 8, 11, 12, 16] ⟨S.locks.length - (j + 1), by omega, j + 1, by omega, rfl, rfl, ?_⟩
    rw [e2, flat_append, List.append_assoc, hQ]; rfl
  have hd : decide ((j : Int) < (S.locks.length : Int)) = false := by simp; omega
  obtain rfl : j = S.locks.length := by omega
  have e3 : (S.locks.map fun v => lkD (stLk v)).take S.locks.length = S.locks.map fun v => lkD (stLk v) := List.take_of_length_le (by rw [List.length_map]; exact Nat.le_refl _)
  have e4 : (S.locks.map lkZ).drop S.locks.length = [] := List.drop_of_length_le (by rw [List.length_map]; exact Nat.le_refl _)
  have e5 : flat [] = [] := rfl
  simp only [go_sem, List.length_map, hd, e3, e4, e5, List.append_nil, Try.results7]
  clear hd e3 e4 e5 hge hq hj
  refine aw_cut (fun fr st => fr = [.any, di m, di p, .any, di want, .ref σ.length 0, .any, .any, .ref (σ.length + 1) 0, .any, .any, db true, .ref (σ.length + 2) 0, .any, .any, .any, .any, .any, .any, .any, .any, .any, .any, .any, .any, .any, .any, .any, .any, .any, .any, .any, .any, .any, .any, .any, .any, .any, .any, .any, .any, .any, .any, .any, .any, .any, .any, .any, .any, .any, .any, .any, .any, .any, .any, .any, .any, .any, .any, .any, .any, .any, .any, .any, .any, .any, .any, .any, .any, .any, .any, .any, .any, .any, .any, .any, .any, .any, .any, .any, .any, .any, .any, .any, .any, .any, .any, .any, .any, .any, .any, .any, .any, .any, .any, .any, .any, .any, .any, .any, .any, .any, .any, .any, .any, .any, .any, .any, .any, .any, .any, .any, .any, .any, .any, .any, .any, .any, .any, .any, .any, .any, .any, .any, .any, .any, .any, .any, .any, .any, .any, .any, .any, .any, .any, .any, .any, .any, .any, .any, .any, .any, .any, .any, .any, .any, .any, .any, .any, .any, .any, .any, .any, .any, .any, .any, .any, .any, .any, .any, .any, .any, .any, .any, .any, .any, .any, .any, .any, .any, .any, .any, .any, .any, .any, .any, .any, .any, .any, .any, .any, .any, .any, .any, .any, .any, .any, .any, .any, .any, .any, .any] ∧ st = σ ++ [scs S, ncs e, scs (stripS S)]) ?_ ?_
  · simp only [go_sem, Try.results7]
    refine aw_loop (fun q fr st => ∃ j : Nat, j ≤ S.procs.length ∧ q = S.procs.length - j ∧ fr = [.any, di m, di p, .any, di want, .ref σ.length 0, .any, .any, .ref (σ.length + 1) 0, .any, .any, db true, .ref (σ.length + 5) 0, .any, .any, .any, .any, dn j, .any, .any, .any, .any, .any, .any, .any, .any, .any, .any, .any, .any, .any, .any, .any, .any, .any, .any, .any, .any, .any, .any, .any, .any, .any, .any, .any, .any, .any, .any, .any, .any, .any, .any, .any, .any, .any, .any, .any, .any, .any, .any, .any, .any, .any, .any, .any, .any, .any, .any, .any, .any, .any, .any, .any, .any, .any, .any, .any, .any, .any, .any, .any, .any, .any, .any, .any, .any, .any, .any, .any, .any, .any, .any, .any, .any, .any, .any, .any, .any, .any, .any, .any, .any, .any, .any, .any, .any, .any, .any, .any, .any, .any, .any, .any, .any, .any, .any, .any, .any, .any, .any, .any, .any, .any, .any, .any, .any, .any, .any, .any, .any, .any, .any, .any, .any, .any, .any, .any, .any, .any, .any, .any, .any, .any, .any, .any, .any, .any, .any, .any, .any, .any, .any, .any, .any, .any, .any, .any, .any, .any, .any, .any, .any, .any, .any, .any, .any, .any, .any, .any, .any, .any, .any, .any, .any, .any, .any, .any, .any, .any, .any, .any, .any, .any, .any, .any, .any, .any, .any, .any, .any, .any, .any] ∧
      st = σ ++ [scs S, ncs e, some (.cells (flat (S.mods.map fun v => moD (stMo v)))), some (.cells (flat (S.locks.map fun v => lkD (stLk v)))), some (.cells (flat ((S.procs.map fun v => prD (stPr v)).take j) ++ flat ((S.procs.map prZ).drop j))), tO S σ.length]) S.procs.length _ ?_ ?_
    · exact Wk.mask [1, 2, 4, 5, 8, 11, 12, 17] ⟨0, by omega, by omega, rfl, rfl⟩
    rintro q fr st ⟨j, hj, hq, rfl, rfl⟩
    rcases Nat.lt_or_ge j S.procs.length with hlt | hge
    · have hd : decide ((j : Int) < (S.procs.length : Int)) = true := by simp; omega
      have w1 := wrapS j (by omega)
      have e0 := pr_get hlt
      have e1 := map_drop prZ S.procs pr0 hlt
      have e2 : (S.procs.map fun v => prD (stPr v)).take (j + 1) = (S.procs.map fun v => prD (stPr v)).take j ++ [prD (stPr (S.procs.getD j pr0))] := by
        rw [← List.map_take, take_getD pr0 hlt, List.map_append, List.map_take]; rfl
      have hP : (flat ((S.procs.map fun v => prD (stPr v)).take j)).length = j * 16 := by
        rw [flat_len (sz := 16), List.length_take, List.length_map, Nat.min_eq_left hj]
        intro x hx
        obtain ⟨y, -, rfl⟩ := List.mem_map.1 (List.mem_of_mem_take hx)
        rfl
      have hsm : smallM (S.procs.getD j pr0).body = true := short_procs h1 hlt
      generalize S.procs.getD j pr0 = v at e0 e1 e2 hsm
      have hvd : prD v = .agg [.str v.name, iD v.mod, vrsD v.params, vrsD v.locals, .str v.locked, iD v.body.kind, .str v.body.name, .str v.body.other, iD v.body.n, iD v.body.len, iD v.body.init, .bool v.body.ghost, .sl 9 (v.body.kids.map Nd.d), iD v.body.pos, isD v.calls, iD v.pos] := rfl
      rw [hvd] at e0
      rw [e1, flat_cons']
      have hvz : (prZ v).cells.map A.d = [.d (.str v.name), di v.mod, .d (vrsD v.params), .d (vrsD v.locals), .d (.str v.locked), di 63, .d (.str []), .d (.str []), di 0, di 0, di 0, db false, .d .nils, di 0, .d (isD v.calls), di v.pos] := rfl
      rw [hvz]
      generalize (S.procs.map fun v => prD (stPr v)).take j = P at hP e2
      generalize hQ : (S.procs.map prZ).drop (j + 1) = Q
      have t1 := fun (M : List A) (k : Nat) => mid_take (M := M) hP k
      have d1 := fun (M : List A) (k : Nat) => mid_drop (M := M) hP k
      have hra := strip_ac v.body (by unfold smallM at hsm; simp at hsm; omega)
      have e2' : stPr v = { v with body := stripM v.body } := rfl
      rw [e2'] at e2
      generalize stripM v.body = ra at hra e2
      simp only [go_sem, List.length_map, hd, w1, e0, Try.results7]
      refine aw_plan (.tk 7 2 <| .pure 9 <| .tk 2 0 <| .tk 3 10 <| .done) (by kernel_rfl) ?_
      simp only [go_sem, List.length_map, hd, w1, e0, Try.results7]
      refine ⟨⟨by omega, by omega⟩, ?_⟩
      refine exP (.d (.agg [iD ra.kind, .str ra.name, .str ra.other, iD ra.n, iD ra.len, iD ra.init, .bool ra.ghost, .sl 9 (ra.kids.map Nd.d), iD ra.pos])) ⟨fun σ' => ?_, ?_⟩
      · simp only [go_sem, Try.results7]
        rw [← Nd.d_eq, ← Nd.d_eq]
        exact ac' (hra _ _ _ ⟨rfl, rfl⟩)
      simp only [go_sem, List.length_map, w1, e0, hP, t1, d1, Nat.add_assoc, Nat.reduceAdd, List.append_assoc, List.cons_append, List.nil_append, List.take_succ_cons, List.drop_succ_cons, List.take_zero, List.drop_zero, Try.results7]
      refine ⟨by omega, by omega, ?_⟩
      refine Wk.mask [1, 2, 4, 5, 8, 11, 12, 17] ⟨S.procs.length - (j + 1), by omega, j + 1, by omega, rfl, rfl, ?_⟩
      rw [e2, flat_append, List.append_assoc, hQ]; rfl
    have hd : decide ((j : Int) < (S.procs.length : Int)) = false := by simp; omega
    obtain rfl : j = S.procs.length := by omega
    have e3 : (S.procs.map fun v => prD (stPr v)).take S.procs.length = S.procs.map fun v => prD (stPr v) := List.take_of_length_le (by rw [List.length_map]; exact Nat.le_refl _)
    have e4 : (S.procs.map prZ).drop S.procs.length = [] := List.drop_of_length_le (by rw [List.length_map]; exact Nat.le_refl _)
    have e5 : flat [] = [] := rfl
    simp only [go_sem, List.length_map, hd, e3, e4, e5, List.append_nil, Try.results7]
    clear hd e3 e4 e5 hge hq hj
    have l1 : Lies (flat (S.mods.map fun v => moD (stMo v))) 22 0 (S.mods.map fun v => moD (stMo v)) := by
      have := lies_pick (f := moD) (g := fun v => moD (stMo v)) mo_cells (fun m => rfl) (fun m => rfl) (fun m => rfl) (-1) S.mods
      rwa [pick_never] at this
    have l2 : Lies (flat (S.locks.map fun v => lkD (stLk v))) 12 0 (S.locks.map fun v => lkD (stLk v)) := by
      have := lies_pick (f := lkD) (g := fun v => lkD (stLk v)) lk_cells (fun m => rfl) (fun m => rfl) (fun m => rfl) (-1) S.locks
      rwa [pick_never] at this
    have l3 : Lies (flat (S.procs.map fun v => prD (stPr v))) 16 0 (S.procs.map fun v => prD (stPr v)) := by
      have := lies_pick (f := prD) (g := fun v => prD (stPr v)) pr_cells (fun m => rfl) (fun m => rfl) (fun m => rfl) (-1) S.procs
      rwa [pick_never] at this
    refine Wk.via (Weak.freezeIn (σ := σ) 2 5 22 0 (S.mods.map fun v => moD (stMo v)) rfl l1 rfl (by decide)) ?_
    refine Wk.via (Weak.freezeIn (σ := σ) 3 5 12 0 (S.locks.map fun v => lkD (stLk v)) rfl l2 rfl (by decide)) ?_
    refine Wk.via (Weak.freezeIn (σ := σ) 4 5 16 0 (S.procs.map fun v => prD (stPr v)) rfl l3 rfl (by decide)) ?_
    simp only [List.set_cons_succ, List.set_cons_zero, frzL, A.frz, List.length_map, beq_self_eq_true, and_self, if_true, Nat.add_right_cancel_iff, Nat.add_left_cancel_iff, Nat.reduceEqDiff, false_and, if_false, reduceIte]
    have hss : scs (stripS S) = some (.cells [.d (.sl 22 (S.mods.map fun v => moD (stMo v))), .d (vrsD S.vars), .d (.sl 12 (S.locks.map fun v => lkD (stLk v))), .d (.sl 16 (S.procs.map fun v => prD (stPr v))), .d (.sl 5 (S.threads.map thD))]) := by
      simp only [scs, stripS_eq, List.map_map]; rfl
    rw [hss]
    exact Wk.keep [1, 2, 4, 5, 8, 11, 12] [0, 1, 5] (by decide) (Nat.le_refl _) hbd ⟨by (simp only [go_sem]) <;> rfl, by (simp only [go_sem]) <;> rfl⟩
  rintro fr st ⟨rfl, rfl⟩
  have hw1 := widthF_ac hS m p hok hn want
  have hso := stripS_ok hS
  have hsf := stripS_fit h1
  have hw2 := widthF_ac hso m p ((strip_okN e).1 hok) (by rw [(strip_okN e).2]; exact hn) want
  rw [width_stripR] at hw2
  have hck1 := checkF_ac hS hF
  have hck2 := checkF_ac hso hsf
  rw [check_strip] at hck2
  have hst := strip_ac e hn
  have hcl := check_len S
  have hwl := width_len7 S m p e want
  have hre : 20 ≤ reachBytes := by decide
  simp only [go_sem, Try.results7]
  rw [← hsy, ← Nd.d_eq e]
  refine ac' (hw1 _ _ _ ?_)
  generalize hwq : (widthR S m p e want).1 = w at hw2
  generalize (widthR S m p e want).2 = d at hw2 hwl
  simp only [go_sem, Try.results7]
  refine aw_plan (.tk 3 1 <| .take 5 <| .pure 4 <| .take 0 <| .pure 6 <| .tk 5 7 <| .done) (by kernel_rfl) ?_
  simp only [go_sem, Try.results7]
  generalize stripS S = S2 at hso hsf hw2 hck2
  generalize stripM e = e2 at hst hw2
  have hsy2 : syD S2 = .agg [.sl 22 (S2.mods.map moD), vrsD S2.vars, .sl 12 (S2.locks.map lkD), .sl 16 (S2.procs.map prD), .sl 5 (S2.threads.map thD)] := rfl
  generalize hd2 : d.map zeroD = d2 at hw2
  have hw3 : ∀ σ' : St, AC Try.prog G 13 [.d (syD S2), di m, di p, .d e2.d, di want] σ' fun r s => r = .tup [di w, .d (dgsD d2)] ∧ s = σ' := fun σ' => hw2 _ _ _ ⟨rfl, rfl⟩
  refine exP (.d e2.d) ⟨fun σ' => ?_, ?_⟩
  · simp only [go_sem, Try.results7]
    rw [← Nd.d_eq]
    exact ac' (hst _ _ _ ⟨rfl, rfl⟩)
  simp only [go_sem, Try.results7]
  refine exP (.tup [di w, .d (dgsD d2)]) ⟨fun σ' => ?_, ?_⟩
  · simp only [go_sem, Try.results7]
    rw [← hsy2]
    exact ac' (hw3 σ')
  simp only [go_sem, Try.results7]
  have hz1 := zero_ac d hwl
  rw [hd2] at hz1
  have hd2l : d2.length ≤ reachBytes := by rw [← hd2, List.length_map]; omega
  have hz2 := zero_ac (checkR S) hcl
  have hcl2 : ((checkR S).map zeroD).length ≤ reachBytes := by rw [List.length_map]; omega
  generalize (checkR S).map zeroD = c2 at hz2 hck2 hcl2
  generalize checkR S = c1 at hz2 hck1
  have hs1 := same_ac d2 d2 hd2l hd2l
  have hs2 := same_ac c2 c2 hcl2 hcl2
  rw [beq_self_eq_true] at hs1 hs2
  have hww : (w == w) = true := beq_self_eq_true w
  refine aw_plan (.tk 8 0 <| .take 9 <| .pure 8 <| .pure 10 <| .tk 3 11 <| .pure 14 <| .pure 15 <| .take 16 <| .pure 17 <| .pure 18 <| .tk 2 19 <| .done) (by kernel_rfl) ?_
  simp only [go_sem, hww, Try.results7]
  refine exQ (dgsD d2) ⟨fun _ => ⟨rfl, fun σ' => ?_⟩, ?_⟩
  · simp only [go_sem, Try.results7]
    exact ac' (hz1 _ _ _ ⟨rfl, rfl⟩)
  simp only [go_sem, hww, Try.results7]
  refine exQ (.bool true) ⟨fun _ => ⟨rfl, fun σ' => ?_⟩, ?_⟩
  · simp only [go_sem, Try.results7]
    exact ac' (hs1 _ _ _ ⟨rfl, rfl⟩)
  simp only [go_sem, hww, Try.results7]
  refine exQ (dgsD c1) ⟨fun _ => ⟨rfl, fun σ' => ?_⟩, ?_⟩
  · simp only [go_sem, Try.results7]
    rw [← hsy]
    exact ac' (hck1 _ _ _ ⟨rfl, rfl⟩)
  simp only [go_sem, hww, Try.results7]
  refine exQ (dgsD c2) ⟨fun _ => ⟨rfl, fun σ' => ?_⟩, ?_⟩
  · simp only [go_sem, Try.results7]
    exact ac' (hz2 _ _ _ ⟨rfl, rfl⟩)
  simp only [go_sem, hww, Try.results7]
  refine exQ (dgsD c2) ⟨fun _ => ⟨rfl, fun σ' => ?_⟩, ?_⟩
  · simp only [go_sem, Try.results7]
    rw [← hsy2]
    exact ac' (hck2 _ _ _ ⟨rfl, rfl⟩)
  simp only [go_sem, hww, Try.results7]
  refine exQ (.bool true) ⟨fun _ => ⟨rfl, fun σ' => ?_⟩, ?_⟩
  · simp only [go_sem, Try.results7]
    exact ac' (hs2 _ _ _ ⟨rfl, rfl⟩)
  simp only [go_sem, hww, Try.results7]
  exact ret_bd hbd rfl h
end Go.Proofs.Ytfoblkeefpaceaa
end PartW7
