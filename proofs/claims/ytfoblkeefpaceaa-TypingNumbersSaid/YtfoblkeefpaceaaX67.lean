import Derived.Test.YtfoblkeefpaceaaX66

section PartW6
/- The law of numbers. -/
set_option linter.unusedSimpArgs false
set_option linter.unusedVariables false
set_option maxRecDepth 100000
namespace Go.Proofs.Ytfoblkeefpaceaa
open Go Go.Ab

def nmD : List D := [.str [124], .str [94], .str [38], .str [43], .str [45], .str [42]]
def opsD (l : List Nat) : D := .sl 1 (l.map fun b : Nat => D.int .u8 (b : Int))
theorem nm_at {k : Nat} (h : k < 6) : ∃ s : Str, List.getD nmD k default = .str s ∧ opM s = 3 ∧ s.length ≤ reachBytes := by
  match k, h with
  | 0, _ => exact ⟨_, rfl, by kernel_rfl, by decide⟩
  | 1, _ => exact ⟨_, rfl, by kernel_rfl, by decide⟩
  | 2, _ => exact ⟨_, rfl, by kernel_rfl, by decide⟩
  | 3, _ => exact ⟨_, rfl, by kernel_rfl, by decide⟩
  | 4, _ => exact ⟨_, rfl, by kernel_rfl, by decide⟩
  | 5, _ => exact ⟨_, rfl, by kernel_rfl, by decide⟩
/-- A tree of numbers that was built from some. -/
structure Bt (e : Nd) (l : List Int) : Prop where
  ok : e.Ok
  small : e.nodes + 1 ≤ 2 * l.length
  num : ∃ L, Num e L ∧ ∀ v, allFit L v = allFit l v
theorem bt_one {k : Int} (h : I64 k) : Bt (numN k 0) [k] := ⟨numN_ok h, by simp [numN, Nd.nodes, Nd.nodesL], [k], .one k 0, fun _ => rfl⟩
theorem fit_snoc (l : List Int) (k v : Int) : allFit (l ++ [k]) v = (allFit l v && fitsM k v) := by simp [allFit]
theorem bt_left {e : Nd} {l : List Int} {k : Int} {s : Str} (h : Bt e l) (hk : I64 k) (hs : s.length ≤ reachBytes) (ho : opM s = 3) : Bt (nN 5 s [e, numN k 0]) (l ++ [k]) := by
  obtain ⟨L, h1, h2⟩ := h.num
  have hsm := h.small
  refine ⟨two_ok hs h.ok (numN_ok hk), ?_, L ++ [k], .bin s _ _ ho h1 (.one k 0), fun v => ?_⟩
  · have : (nN 5 s [e, numN k 0]).nodes = 1 + (e.nodes + 1) := by rw [Nd.nodes_eq]; simp [nN, numN, Nd.kids, Nd.nodes, Nd.nodesL]
    rw [this]; simp; omega
  · rw [fit_snoc, fit_snoc, h2]
theorem bt_right {e : Nd} {l : List Int} {k : Int} {s : Str} (h : Bt e l) (hk : I64 k) (hs : s.length ≤ reachBytes) (ho : opM s = 3) : Bt (nN 5 s [numN k 0, e]) (l ++ [k]) := by
  obtain ⟨L, h1, h2⟩ := h.num
  have hsm := h.small
  refine ⟨two_ok hs (numN_ok hk) h.ok, ?_, [k] ++ L, .bin s _ _ ho (.one k 0) h1, fun v => ?_⟩
  · have : (nN 5 s [numN k 0, e]).nodes = 1 + (e.nodes + 1) := by rw [Nd.nodes_eq]; simp [nN, numN, Nd.kids, Nd.nodes, Nd.nodesL]; omega
    rw [this]; simp; omega
  · have e1 : allFit ([k] ++ L) v = (fitsM k v && allFit L v) := by simp [allFit]
    rw [e1, fit_snoc, h2, Bool.and_comm]
/-- The least width so far, from above. -/
def Lst (l : List Int) (least : Int) (v : Nat) : Prop := (least = 0 ∧ ∀ u : Int, v < u → u ≤ 8 → allFit l u = false) ∨ (v < least ∧ least ≤ 8 ∧ allFit l least = true ∧ ∀ u : Int, v < u → u < least → allFit l u = false)
theorem lst_fit {l : List Int} {v : Nat} (h8 : v + 1 ≤ 8) (h : allFit l ((v + 1 : Nat) : Int) = true) : Lst l ((v + 1 : Nat) : Int) v := .inr ⟨by omega, by omega, h, fun u h1 h2 => by omega⟩
theorem lst_not {l : List Int} {least : Int} {v : Nat} (h : allFit l ((v + 1 : Nat) : Int) = false) (k : Lst l least (v + 1)) : Lst l least v := by
  rcases k with ⟨k1, k2⟩ | ⟨k1, k2, k3, k4⟩
  · refine .inl ⟨k1, fun u h1 h2 => ?_⟩
    rcases Decidable.em (u = ((v + 1 : Nat) : Int)) with e | e
    · rw [e]; exact h
    · exact k2 u (by omega) h2
  · refine .inr ⟨by omega, k2, k3, fun u h1 h2 => ?_⟩
    rcases Decidable.em (u = ((v + 1 : Nat) : Int)) with e | e
    · rw [e]; exact h
    · exact k4 u (by omega) h2
theorem bench_good {v : Int} (h : 0 ≤ v ∧ v ≤ 8) : goodM benchM 0 (-1) v = true := by
  unfold goodM
  have h1 : usableM benchM = true := by kernel_rfl
  have h2 : placeM benchM 0 (-1) = true := by kernel_rfl
  rw [h1, h2]; simp; exact h
set_option maxHeartbeats 16000000 in
theorem law6_ac (l : List Int) (hl : l.length ≤ reachBytes) (hi : ∀ k ∈ l, I64 k) (ops : List Nat) (hol : ops.length ≤ reachBytes) (ho : ∀ k ∈ ops, k ≤ 255) (left : Bool) (σ : St) (G : Glob) (R : A → St → Prop) (h : R (db true) σ) : AC Try.prog G 6 [.d (isD l), .d (opsD ops), db left] σ R := by
  have hre : reachBytes < 9223372036854775000 := by decide
  unfold isD opsD
  refine ac_enterC' [4, 6, 13, 22, 27] mixed Try.func6 rfl Try.ntmps6 (by simp only [go_sem]) fun hbd => ?_
  simp only [List.length_cons, List.length_nil, Nat.reduceAdd, Nat.reduceSub, List.replicate_succ, List.replicate_zero, List.cons_append, List.nil_append]
  simp only [go_sem, Try.results6]
  refine ac' (head_ac _ _ _ ?_)
  simp only [go_sem, Try.results6]
  refine aw_cut (fun fr st => (1 ≤ l.length ∧ l.length ≤ 12 ∧ 1 ≤ ops.length ∧ ops.length ≤ 12) ∧ fr = [.d (.sl 1 (l.map iD)), .d (.sl 1 (ops.map fun b : Nat => D.int .u8 (b : Int))), db left, .any, .any, .any, .any, db true, .any, .any, .any, .any, .any, .any, .any, .any, .any, .any, .any, .any, .any, .any, .any, .any, .any, .any, .any, .any, .any, .any, .any, .any, .any, .any, .any, .any, .any, .any, .any, .any, .any, .any, .any, .any, .any, .any, .any, .any, .any, .any, .any, .any, .any, .any, .any, .any, .any, .any, .any, .any, .any, .any, .any, .any, .any, .any, .any, .any, .any, .any, .any, .any, .any, .any, .any, .any, .any, .any, .any, .any, .any, .any, .any, .any, .any, .any, .any, .any, .any, .any, .any, .any, .any, .any, .any, .any, .any, .any, .any, .any, .any, .any, .any, .any, .any, .any, .any, .any, .any, .any, .any, .any, .any, .any, .any, .any, .any, .any, .any, .any, .any, .any, .any, .any, .any, .any, .any, .any, .any, .any, .any, .any, .any, .any, .any, .any, .any, .any, .any] ∧ st = σ) ?_ ?_
  · obtain ⟨b, hb⟩ : ∃ b, b = decide (1 ≤ l.length ∧ l.length ≤ 12 ∧ 1 ≤ ops.length ∧ ops.length ≤ 12) := ⟨_, rfl⟩
    have hc : (decide ((l.length : Int) < 1) || decide (12 < (l.length : Int)) || decide ((ops.length : Int) < 1) || decide (12 < (ops.length : Int))) = !b := by
      rw [hb, Bool.eq_iff_iff]; simp only [Bool.or_eq_true, decide_eq_true_eq, Bool.not_eq_true', decide_eq_false_iff_not]; omega
    simp only [go_sem, List.length_map, hc, Try.results6]
    refine ⟨fun c => ⟨_, _, Weak.refl _ _ _ _, h⟩, fun c => ?_⟩
    have hb1 : b = true := by simpa using c
    rw [hb1] at hb
    exact Wk.mask [0, 1, 2, 7] ⟨of_decide_eq_true hb.symm, rfl, rfl⟩
  rintro fr st ⟨⟨h1, h2, h3, h4⟩, rfl, hst⟩
  subst hst
  have hD : List.getD (l.map iD) 0 default = iD (l.getD 0 0) := getD_mapD h1
  simp only [go_sem, Try.results6]
  refine aw_cut (fun fr s => ∃ e, Bt e (l.take 1) ∧ fr = [.d (.sl 1 (l.map iD)), .d (.sl 1 (ops.map fun b : Nat => D.int .u8 (b : Int))), db left, .any, .any, .any, .any, db true, .d (.sl 1 nmD), .ref st.length 0, .any, .any, .any, .any, .any, .any, .any, .any, .any, .any, .any, .any, .any, .any, .any, .any, .any, .any, .any, .any, .any, .any, .any, .any, .any, .any, .any, .any, .any, .any, .any, .any, .any, .any, .any, .any, .any, .any, .any, .any, .any, .any, .any, .any, .any, .any, .any, .any, .any, .any, .any, .any, .any, .any, .any, .any, .any, .any, .any, .any, .any, .any, .any, .any, .any, .any, .any, .any, .any, .any, .any, .any, .any, .any, .any, .any, .any, .any, .any, .any, .any, .any, .any, .any, .any, .any, .any, .any, .any, .any, .any, .any, .any, .any, .any, .any, .any, .any, .any, .any, .any, .any, .any, .any, .any, .any, .any, .any, .any, .any, .any, .any, .any, .any, .any, .any, .any, .any, .any, .any, .any, .any, .any, .any, .any, .any, .any, .any, .any] ∧ s = st ++ [ncs e]) ?_ ?_
  · simp only [go_sem, hD, List.length_map, Int.reduceToNat, Try.results6]
    refine ⟨⟨by omega, by omega⟩, ac' (numF_ac _ _ _ _ _ ?_)⟩
    simp only [nD, go_sem, Nat.add_assoc, Nat.reduceAdd, Try.results6]
    refine Wk.deep [0] 3 ?_
    simp only [go_sem, Nat.add_assoc, Nat.reduceAdd, Try.results6]
    have e1 : l.take 1 = [l.getD 0 0] := by
      cases l with
      | nil => simp at h1
      | cons a r => rfl
    refine Wk.keep [0, 1, 2, 7, 8, 9] [1] (by decide) (Nat.le_refl _) hbd ⟨numN (l.getD 0 0) 0, by rw [e1]; exact bt_one (hi _ (getD_mem 0 h1)), by (simp only [go_sem]) <;> rfl, by (simp only [go_sem]) <;> rfl⟩
  rintro fr s ⟨e0, hb0, rfl, rfl⟩
  refine aw_cut (fun fr s => ∃ e, Bt e l ∧ fr = [.d (.sl 1 (l.map iD)), .any, .any, .any, .any, .any, .any, db true, .any, .ref st.length 0, .any, .any, .any, .any, .any, .any, .any, .any, .any, .any, .any, .any, .any, .any, .any, .any, .any, .any, .any, .any, .any, .any, .any, .any, .any, .any, .any, .any, .any, .any, .any, .any, .any, .any, .any, .any, .any, .any, .any, .any, .any, .any, .any, .any, .any, .any, .any, .any, .any, .any, .any, .any, .any, .any, .any, .any, .any, .any, .any, .any, .any, .any, .any, .any, .any, .any, .any, .any, .any, .any, .any, .any, .any, .any, .any, .any, .any, .any, .any, .any, .any, .any, .any, .any, .any, .any, .any, .any, .any, .any, .any, .any, .any, .any, .any, .any, .any, .any, .any, .any, .any, .any, .any, .any, .any, .any, .any, .any, .any, .any, .any, .any, .any, .any, .any, .any, .any, .any, .any, .any, .any, .any, .any, .any, .any, .any, .any, .any, .any] ∧ s = st ++ [ncs e]) ?_ ?_
  · simp only [go_sem, Try.results6]
    refine aw_loop (fun q fr s => ∃ (j : Nat) (e : Nd), 1 ≤ j ∧ j ≤ l.length ∧ q = l.length - j ∧ Bt e (l.take j) ∧ fr = [.d (.sl 1 (l.map iD)), .d (.sl 1 (ops.map fun b : Nat => D.int .u8 (b : Int))), db left, .any, .any, .any, .any, db true, .d (.sl 1 nmD), .ref st.length 0, dn j, .any, .any, .any, .any, .any, .any, .any, .any, .any, .any, .any, .any, .any, .any, .any, .any, .any, .any, .any, .any, .any, .any, .any, .any, .any, .any, .any, .any, .any, .any, .any, .any, .any, .any, .any, .any, .any, .any, .any, .any, .any, .any, .any, .any, .any, .any, .any, .any, .any, .any, .any, .any, .any, .any, .any, .any, .any, .any, .any, .any, .any, .any, .any, .any, .any, .any, .any, .any, .any, .any, .any, .any, .any, .any, .any, .any, .any, .any, .any, .any, .any, .any, .any, .any, .any, .any, .any, .any, .any, .any, .any, .any, .any, .any, .any, .any, .any, .any, .any, .any, .any, .any, .any, .any, .any, .any, .any, .any, .any, .any, .any, .any, .any, .any, .any, .any, .any, .any, .any, .any, .any, .any, .any, .any, .any, .any, .any, .any] ∧ s = st ++ [ncs e]) (l.length - 1) _ ?_ ?_
    · exact Wk.keep [0, 1, 2, 7, 8, 9, 10] [0] (by decide) (Nat.le_refl _) hbd ⟨1, e0, by omega, by omega, by omega, hb0, by (simp only [go_sem]) <;> rfl, by (simp only [go_sem]) <;> rfl⟩
    rintro q fr s ⟨j, e, hj1, hj, hq, hbt, rfl, rfl⟩
    rcases Nat.lt_or_ge j l.length with hlt | hge
    · have hd : decide ((j : Int) < (l.length : Int)) = true := decide_eq_true (by omega)
      have w1 := wrapS j (by omega)
      have hp : j % ops.length < ops.length := Nat.mod_lt _ (by omega)
      have tm : (j : Int).tmod (ops.length : Int) = ((j % ops.length : Nat) : Int) := (Int.ofNat_tmod j ops.length).symm
      have e2 : List.getD (ops.map fun b : Nat => D.int .u8 (b : Int)) (j % ops.length) default = .int .u8 (ops.getD (j % ops.length) 0 : Nat) := getD_mapD hp
      have hb255 := ho _ (getD_mem 0 hp)
      generalize ops.getD (j % ops.length) 0 = b at e2 hb255
      have wb : IntKind.i64.wrap (b : Int) = (b : Int) := wrap64_id _ (by omega) (by omega)
      have tm2 : (b : Int).tmod 6 = ((b % 6 : Nat) : Int) := (Int.ofNat_tmod b 6).symm
      obtain ⟨op, n1, n2, n3⟩ := nm_at (k := b % 6) (Nat.mod_lt _ (by omega))
      have e3 : List.getD (l.map iD) j default = iD (l.getD j 0) := getD_mapD hlt
      have hk := hi _ (getD_mem 0 hlt)
      have htk := take_getD 0 hlt
      generalize l.getD j 0 = k at e3 hk htk
      have hn6 : nmD.length = 6 := rfl
      simp only [go_sem, hd, List.length_map, tm, e2, wb, tm2, n1, hn6, Int.toNat_natCast, Try.results6]
      refine ⟨by omega, ⟨by omega, by omega⟩, by omega, ⟨by omega, by omega⟩, fun c => ?_, fun c => ?_⟩
      · refine aw_plan (.take 0 <| .tk 4 2 <| .pure 6 <| .take 1 <| .tk 3 7 <| .done) (by kernel_rfl) ?_
        simp only [go_sem, List.length_map, e3, Int.toNat_natCast, Try.results6]
        refine ⟨⟨by omega, by omega⟩, exP (.d (nD 1 [] k [] 0)) ⟨fun σ' => ?_, ?_⟩⟩
        · simp only [go_sem, Try.results6]
          exact ac' (numF_ac _ _ _ _ _ ⟨rfl, rfl⟩)
        simp only [nD, go_sem, Nat.add_assoc, Nat.reduceAdd, Try.results6]
        refine ac' (nO_ac ?_)
        simp only [go_sem]
        rw [← Nd.d_eq e]
        refine nF_ac _ _ _ _ _ _ ?_
        simp only [nD, go_sem, w1, Nat.add_assoc, Nat.reduceAdd, Try.results6]
        exact Wk.keep [0, 1, 2, 7, 8, 9, 10] [0] (by decide) (Nat.le_refl _) hbd ⟨l.length - (j + 1), by omega, j + 1, nN 5 op [e, numN k 0], by omega, by omega, rfl, by rw [htk]; exact bt_left hbt hk n3 n2, by (simp only [go_sem]) <;> rfl, by (simp only [go_sem]) <;> rfl⟩
      · refine aw_plan (.tk 5 0 <| .pure 5 <| .tk 4 6 <| .done) (by kernel_rfl) ?_
        simp only [go_sem, List.length_map, e3, Int.toNat_natCast, Try.results6]
        refine ⟨⟨by omega, by omega⟩, exP (.d (nD 1 [] k [] 0)) ⟨fun σ' => ?_, ?_⟩⟩
        · simp only [go_sem, Try.results6]
          exact ac' (numF_ac _ _ _ _ _ ⟨rfl, rfl⟩)
        simp only [nD, go_sem, Nat.add_assoc, Nat.reduceAdd, Try.results6]
        refine ac' (nO_ac ?_)
        simp only [go_sem]
        rw [← Nd.d_eq e]
        refine nF_ac _ _ _ _ _ _ ?_
        simp only [nD, go_sem, w1, Nat.add_assoc, Nat.reduceAdd, Try.results6]
        exact Wk.keep [0, 1, 2, 7, 8, 9, 10] [0] (by decide) (Nat.le_refl _) hbd ⟨l.length - (j + 1), by omega, j + 1, nN 5 op [numN k 0, e], by omega, by omega, rfl, by rw [htk]; exact bt_right hbt hk n3 n2, by (simp only [go_sem]) <;> rfl, by (simp only [go_sem]) <;> rfl⟩
    · have hd : decide ((j : Int) < (l.length : Int)) = false := decide_eq_false (by omega)
      rw [List.take_of_length_le hge] at hbt
      simp only [go_sem, hd, List.length_map, Try.results6]
      exact Wk.keep [0, 7, 9] [0] (by decide) (Nat.le_refl _) hbd ⟨e, hbt, by (simp only [go_sem]) <;> rfl, by (simp only [go_sem]) <;> rfl⟩
  clear hb0 hD
  rintro fr s ⟨e, hbt, rfl, rfl⟩
  have hes : e.nodes ≤ 10000 := by have := hbt.small; omega
  obtain ⟨L, hL, hLf⟩ := hbt.num
  have nf := num_facts hL (cxM benchM 0 (-1) true) [] (den (declM benchM 0 (-1)) [])
  have hW : ∀ v : Int, 1 ≤ v ∧ v ≤ 8 → ∃ d, widthR benchM 0 (-1) e v = (v, d) ∧ (d = [] ↔ allFit l v = true) := fun v hv => by
    refine ⟨_, by rw [width_good (bench_good (by omega))]; unfold wM; rw [width_self hv.1], ?_⟩
    rw [take20_nil, ← hLf, ← nf.2.1 v]
    unfold dM wM
    rw [width_self hv.1]; rfl
  simp only [go_sem, Try.results6]
  refine aw_cut (fun fr s => ∃ least, Lst l least 0 ∧ fr = [.any, .any, .any, .any, .any, .any, .any, db true, .any, .ref st.length 0, .any, .any, di least, .any, .any, .any, .any, .any, .any, .any, .any, .any, .any, .any, .any, .any, .any, .any, .any, .any, .any, .any, .any, .any, .any, .any, .any, .any, .any, .any, .any, .any, .any, .any, .any, .any, .any, .any, .any, .any, .any, .any, .any, .any, .any, .any, .any, .any, .any, .any, .any, .any, .any, .any, .any, .any, .any, .any, .any, .any, .any, .any, .any, .any, .any, .any, .any, .any, .any, .any, .any, .any, .any, .any, .any, .any, .any, .any, .any, .any, .any, .any, .any, .any, .any, .any, .any, .any, .any, .any, .any, .any, .any, .any, .any, .any, .any, .any, .any, .any, .any, .any, .any, .any, .any, .any, .any, .any, .any, .any, .any, .any, .any, .any, .any, .any, .any, .any, .any, .any, .any, .any, .any, .any, .any, .any, .any, .any, .any] ∧ s = st ++ [ncs e]) ?_ ?_
  · simp only [go_sem, Try.results6]
    refine aw_loop (fun q fr s => ∃ (v : Nat) (least : Int), v ≤ 8 ∧ q = v ∧ Lst l least v ∧ fr = [.d (.sl 1 (l.map iD)), .any, .any, .any, .any, .any, .any, db true, .any, .ref st.length 0, .any, .any, di least, dn v, .any, .any, .any, .any, .any, .any, .any, .any, .any, .any, .any, .any, .any, .any, .any, .any, .any, .any, .any, .any, .any, .any, .any, .any, .any, .any, .any, .any, .any, .any, .any, .any, .any, .any, .any, .any, .any, .any, .any, .any, .any, .any, .any, .any, .any, .any, .any, .any, .any, .any, .any, .any, .any, .any, .any, .any, .any, .any, .any, .any, .any, .any, .any, .any, .any, .any, .any, .any, .any, .any, .any, .any, .any, .any, .any, .any, .any, .any, .any, .any, .any, .any, .any, .any, .any, .any, .any, .any, .any, .any, .any, .any, .any, .any, .any, .any, .any, .any, .any, .any, .any, .any, .any, .any, .any, .any, .any, .any, .any, .any, .any, .any, .any, .any, .any, .any, .any, .any, .any, .any, .any, .any, .any, .any, .any] ∧ s = st ++ [ncs e]) 8 _ ?_ ?_
    · exact Wk.keep [0, 7, 9, 12, 13] [0] (by decide) (Nat.le_refl _) hbd ⟨8, 0, by omega, rfl, .inl ⟨rfl, fun u h1 h2 => by omega⟩, by (simp only [go_sem]) <;> rfl, by (simp only [go_sem]) <;> rfl⟩
    rintro q fr s ⟨v, least, hv, rfl, hlst, rfl, rfl⟩
    rcases Nat.eq_zero_or_pos q with rfl | hpos
    · have hd : decide ((1 : Int) ≤ ((0 : Nat) : Int)) = false := by decide
      simp only [go_sem, hd, Try.results6]
      exact Wk.keep [7, 9, 12] [0] (by decide) (Nat.le_refl _) hbd ⟨least, hlst, by (simp only [go_sem]) <;> rfl, by (simp only [go_sem]) <;> rfl⟩
    · obtain ⟨v, rfl⟩ : ∃ v, q = v + 1 := ⟨q - 1, by omega⟩
      have hd : decide ((1 : Int) ≤ ((v + 1 : Nat) : Int)) = true := decide_eq_true (by omega)
      have w2 : IntKind.i64.wrap (((v + 1 : Nat) : Int) - 1) = (v : Int) := by rw [wrap64_id _ (by omega) (by omega)]; omega
      obtain ⟨d, hwd, hdf⟩ := hW ((v + 1 : Nat) : Int) (by omega)
      obtain ⟨x, hx⟩ : ∃ x : Int, x = ((v + 1 : Nat) : Int) := ⟨_, rfl⟩
      simp only [go_sem, hd, Try.results6]
      refine aw_cut (fun fr s => fr = [.d (.sl 1 (l.map iD)), .any, .any, .any, .any, .any, .any, db true, .any, .ref st.length 0, .any, .any, di least, dn (v + 1), db (allFit l ((v + 1 : Nat) : Int)), .any, .any, .any, .any, .any, .any, .any, .any, .any, .any, .any, .any, .any, .any, .any, .any, .any, .any, .any, .any, .any, .any, .any, .any, .any, .any, .any, .any, .any, .any, .any, .any, .any, .any, .any, .any, .any, .any, .any, .any, .any, .any, .any, .any, .any, .any, .any, .any, .any, .any, .any, .any, .any, .any, .any, .any, .any, .any, .any, .any, .any, .any, .any, .any, .any, .any, .any, .any, .any, .any, .any, .any, .any, .any, .any, .any, .any, .any, .any, .any, .any, .any, .any, .any, .any, .any, .any, .any, .any, .any, .any, .any, .any, .any, .any, .any, .any, .any, .any, .any, .any, .any, .any, .any, .any, .any, .any, .any, .any, .any, .any, .any, .any, .any, .any, .any, .any, .any, .any, .any, .any, .any, .any, .any] ∧ s = st ++ [ncs e]) ?_ ?_
      · simp only [go_sem, Try.results6]
        refine aw_loop (fun q fr s => ∃ (j : Nat), j ≤ l.length ∧ q = l.length - j ∧ fr = [.d (.sl 1 (l.map iD)), .any, .any, .any, .any, .any, .any, db true, .any, .ref st.length 0, .any, .any, di least, dn (v + 1), db (allFit (l.take j) ((v + 1 : Nat) : Int)), dn j, .any, .any, .any, .any, .any, .any, .any, .any, .any, .any, .any, .any, .any, .any, .any, .any, .any, .any, .any, .any, .any, .any, .any, .any, .any, .any, .any, .any, .any, .any, .any, .any, .any, .any, .any, .any, .any, .any, .any, .any, .any, .any, .any, .any, .any, .any, .any, .any, .any, .any, .any, .any, .any, .any, .any, .any, .any, .any, .any, .any, .any, .any, .any, .any, .any, .any, .any, .any, .any, .any, .any, .any, .any, .any, .any, .any, .any, .any, .any, .any, .any, .any, .any, .any, .any, .any, .any, .any, .any, .any, .any, .any, .any, .any, .any, .any, .any, .any, .any, .any, .any, .any, .any, .any, .any, .any, .any, .any, .any, .any, .any, .any, .any, .any, .any, .any, .any, .any, .any, .any, .any, .any, .any] ∧ s = st ++ [ncs e]) l.length _ ?_ ?_
        · exact Wk.keep [0, 7, 9, 12, 13, 14, 15] [0] (by decide) (Nat.le_refl _) hbd ⟨0, by omega, by omega, by (simp only [go_sem]) <;> rfl, by (simp only [go_sem]) <;> rfl⟩
        rintro q fr s ⟨j, hj, hq, rfl, rfl⟩
        rcases Nat.lt_or_ge j l.length with hlt | hge
        · have hd : decide ((j : Int) < (l.length : Int)) = true := decide_eq_true (by omega)
          have w1 := wrapS j (by omega)
          have e3 : List.getD (l.map iD) j default = iD (l.getD j 0) := getD_mapD hlt
          have htk := take_getD 0 hlt
          generalize l.getD j 0 = k at e3 htk
          simp only [go_sem, hd, e3, w1, List.length_map, Int.toNat_natCast, Try.results6]
          refine ⟨fun c => ⟨c, by omega, by omega⟩, ex' (.bool (fitsM k ((v + 1 : Nat) : Int))) ⟨fun q => ?_, ?_⟩⟩
          · simp only [go_sem, Try.results6]
            exact ⟨by simpa using q, ac' (rfits_ac k (v + 1) (by omega) _ _ _ ⟨rfl, rfl⟩)⟩
          simp only [go_sem, w1, Try.results6]
          exact Wk.keep [0, 7, 9, 12, 13, 14, 15] [0] (by decide) (Nat.le_refl _) hbd ⟨l.length - (j + 1), by omega, j + 1, by omega, rfl, by rw [htk, fit_snoc]; (simp only [go_sem]) <;> rfl, by (simp only [go_sem]) <;> rfl⟩
        · have hd : decide ((j : Int) < (l.length : Int)) = false := decide_eq_false (by omega)
          rw [List.take_of_length_le hge]
          simp only [go_sem, hd, List.length_map, Try.results6]
          exact Wk.keep [0, 7, 9, 12, 13, 14] [0] (by decide) (Nat.le_refl _) hbd ⟨by (simp only [go_sem]) <;> rfl, by (simp only [go_sem]) <;> rfl⟩
      rintro fr s ⟨rfl, rfl⟩
      simp only [go_sem, Try.results6]
      refine aw_plan (.take 2 <| .pure 0 <| .take 1 <| .tk 6 3 <| .done) (by kernel_rfl) ?_
      simp only [go_sem, Try.results6]
      refine exP (.d (syD benchM)) ⟨fun σ' => ?_, ?_⟩
      · simp only [go_sem, Try.results6]
        exact ac' (bench_ac _ _ _ ⟨rfl, rfl⟩)
      simp only [syD, Sy.cs, vrsD]
      simp only [go_sem, Try.results6]
      have hs : syD benchM = .agg [.sl 22 (benchM.mods.map moD), .sl 7 (benchM.vars.map vrD), .sl 12 (benchM.locks.map lkD), .sl 16 (benchM.procs.map prD), .sl 5 (benchM.threads.map thD)] := rfl
      rw [← hs, ← Nd.d_eq]
      refine ac' (widthF_ac bench_ok 0 (-1) hbt.ok hes _ _ _ _ ?_)
      rw [hwd]
      simp only [dgsD, List.length_map, go_sem, w2, Try.results6]
      have hz : (((d.length : Nat) : Int) == 0) = allFit l ((v + 1 : Nat) : Int) := by
        rw [Bool.eq_iff_iff, ← hdf]; simp
      rw [hz]
      refine ⟨fun c => ?_, fun _ => ⟨fun c => ?_, fun c => ?_⟩⟩
      · rw [beq_self_eq_true] at c; cases c
      · exact Wk.keep [0, 7, 9, 12, 13] [0] (by decide) (Nat.le_refl _) hbd ⟨v, by omega, v, ((v + 1 : Nat) : Int), by omega, rfl, lst_fit hv c, by (simp only [go_sem]) <;> rfl, by (simp only [go_sem]) <;> rfl⟩
      · exact Wk.keep [0, 7, 9, 12, 13] [0] (by decide) (Nat.le_refl _) hbd ⟨v, by omega, v, least, by omega, rfl, lst_not c hlst, by (simp only [go_sem]) <;> rfl, by (simp only [go_sem]) <;> rfl⟩
  rintro fr s ⟨least, hlst, rfl, rfl⟩
  have law := numbers_law hL (cxM benchM 0 (-1) true) [] (least := least) (by
    rcases hlst with ⟨k1, k2⟩ | ⟨k1, k2, k3, k4⟩
    · exact .inl ⟨k1, fun v h1 h2 => by rw [hLf]; exact k2 v (by omega) h2⟩
    · exact .inr ⟨by omega, k2, by rw [hLf]; exact k3, fun v h1 h2 => by rw [hLf]; exact k4 v (by omega) h2⟩)
  have hw0 := width_good (S := benchM) (e := e) (bench_good (v := 0) (by omega))
  obtain ⟨d, hd⟩ : ∃ d, d = (dM benchM 0 (-1) e 0).take 20 := ⟨_, rfl⟩
  obtain ⟨w, hw⟩ : ∃ w, w = wM benchM 0 (-1) e 0 := ⟨_, rfl⟩
  rw [← hd, ← hw] at hw0
  have l1 : least = 0 ↔ d ≠ [] := by
    rw [hd, Ne, take20_nil]; exact law.1
  have l2 : least ≠ 0 → w = least := fun h0 => by rw [hw]; exact law.2 h0
  simp only [go_sem, Try.results6]
  refine aw_plan (.pure 0 <| .tk 7 1 <| .done) (by kernel_rfl) ?_
  simp only [go_sem, Try.results6]
  refine exP (.d (syD benchM)) ⟨fun σ' => ?_, ?_⟩
  · simp only [go_sem, Try.results6]
    exact ac' (bench_ac _ _ _ ⟨rfl, rfl⟩)
  simp only [syD, Sy.cs, vrsD]
  simp only [go_sem, Try.results6]
  have hs : syD benchM = .agg [.sl 22 (benchM.mods.map moD), .sl 7 (benchM.vars.map vrD), .sl 12 (benchM.locks.map lkD), .sl 16 (benchM.procs.map prD), .sl 5 (benchM.threads.map thD)] := rfl
  rw [← hs, ← Nd.d_eq]
  refine ac' (widthF_ac bench_ok 0 (-1) hbt.ok hes _ _ _ _ ?_)
  rw [hw0]
  simp only [dgsD, List.length_map, go_sem, Try.results6]
  have hf : ((least == 0) == decide (0 < (d.length : Int)) && (least == 0 || w == least)) = true := by
    by_cases h0 : least = 0
    · have hd0 := l1.1 h0
      have : 0 < (d.length : Int) := by
        have := List.length_pos_iff.2 hd0
        omega
      rw [decide_eq_true this, h0]; rfl
    · have hd0 : d = [] := Decidable.byContradiction fun hh => h0 (l1.2 hh)
      have hww := l2 h0
      subst hd0
      simp [h0, hww]
  rw [hf]
  exact ⟨fun a => ⟨a, fun b => by rw [a, b]; rfl⟩, ret_bd hbd rfl h⟩
end Go.Proofs.Ytfoblkeefpaceaa
end PartW6
