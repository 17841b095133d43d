import Derived.Test.YtmjlhbkgljcnoaaGreatDoorZ36
import Derived.Test.YtmjlhbkgljcnoaaGreatDoorZ31

section PartT26
/- Runs of values: the iterator, its collection. -/
set_option linter.unusedSimpArgs false
set_option linter.unusedVariables false
set_option maxRecDepth 100000
namespace Go.Proofs.YtmjlhbkgljcnoaaGreatDoor
open Go Go.Ab

def rnsD (rs : List (Nat × List Nat)) : D := .sl 2 (rs.map rnD)
def rnC (rs : List (Nat × List Nat)) : List A := rs.flatMap fun r => [di (r.1 : Nat), .d (isD (nL r.2))]
theorem rnC_len (rs : List (Nat × List Nat)) : (rnC rs).length = rs.length * 2 := by
  induction rs with
  | nil => rfl
  | cons p ps ih =>
    have : rnC (p :: ps) = di (p.1 : Nat) :: .d (isD (nL p.2)) :: rnC ps := rfl
    rw [this]; simp only [List.length_cons, ih]; omega
theorem rnC_lies (rs : List (Nat × List Nat)) : Lies (rnC rs) 2 0 (rs.map rnD) := by
  have e : rnC rs = flat (rs.map rnD) := by
    induction rs with
    | nil => rfl
    | cons p ps ih => rw [List.map_cons, flat_cons, ← ih]; rfl
  rw [e]
  refine lies_of fun x hx => ?_
  obtain ⟨p, -, rfl⟩ := List.mem_map.1 hx
  exact ⟨rfl, fun y hy => by simp [rnD, D.cells] at hy; rcases hy with rfl | rfl <;> rfl⟩
theorem runs_ac (low w : Nat) (l : List Nat) (σ : St) (G : Glob) (R : A → St → Prop) (h : R (.fn (.func 92) [] [.ref (σ.length + 2) 0, .ref σ.length 0, .ref (σ.length + 1) 0]) (σ ++ [some (.cells [.d (isD (nL l))]), some (.cells [dn low]), some (.cells [dn w])])) : AC Tryz.prog G 73 [.d (isD (nL l)), dn low, dn w] σ R := by
  refine ac_enter mixed Tryz.func73 rfl Tryz.ntmps73 (by simp only [go_sem]) fun hbd => ?_
  simp only [List.length_cons, List.length_nil, Nat.reduceAdd, Nat.reduceSub, List.replicate_succ, List.replicate_zero, List.cons_append, List.nil_append]
  simp only [isD, go_sem, Tryz.results73]
  exact ⟨_, _, Weak.refl _ _ _ _, h⟩
/-- Runs under way: the box, the list. -/
structure Rr (σ : St) (iw iin il low w : Nat) (lp : Ob) (acc : List (Nat × List Nat)) (st : St) : Prop where
  lp_ : st[σ.length + 2]? = some (some lp)
  old : ∀ k, k < σ.length → k ≠ iin → st[k]? = σ[k]?
  lst : ∃ ia, ia ≠ σ.length + 2 ∧ ia ≠ σ.length + 3 ∧ σ.length < ia ∧ st[σ.length]? = some (some (.cells [.rs ia 2 0 acc.length (some 116)])) ∧ st[ia]? = some (some (.cells (rnC acc)))
set_option maxHeartbeats 4000000 in
theorem append_runs (low w : Nat) (hlw : low + w ≤ 12) (l : List Nat) (hl : l.length ≤ 4096) (hp : l.Pairwise (· < ·)) (hb : ∀ n ∈ l, n < 4096) {iw iin il : Nat} (σ : St) (hw : σ[iw]? = some (some (.cells [dn w]))) (hin : σ[iin]? = some (some (.cells [.d (isD (nL l))]))) (hlo : σ[il]? = some (some (.cells [dn low]))) (hne : iw ≠ iin ∧ il ≠ iin)
    (G : Glob) (hpan : ∀ a s, ¬ G.pan a s) (R : A → St → Prop) (h : ∀ st, σ.length ≤ st.length → (∀ k, k < σ.length → k ≠ iin → st[k]? = σ[k]?) → R (.d (rnsD (runsOf low w l))) st) : AC Tryz.prog G 91 [.d .nils, .fn (.func 92) [] [.ref iw 0, .ref iin 0, .ref il 0]] σ R := by
  have l1 := lt_of_some hw
  have l2 := lt_of_some hin
  have l3 := lt_of_some hlo
  refine ac_enterC' [4] mixed Tryz.func91 rfl Tryz.ntmps91 (by simp only [go_sem]) fun hbd => ?_
  simp only [List.length_cons, List.length_nil, Nat.reduceAdd, Nat.reduceSub, List.replicate_succ, List.replicate_zero, List.cons_append, List.nil_append]
  simp only [go_sem, Tryz.results91]
  refine aw_cut (fun fr st => ∃ ia, fr = [.any, .any, .ref σ.length 0, .any, .any, .any, .any, .any, .any, .any, .any, .any, .any] ∧ (∀ k, k < σ.length → k ≠ iin → st[k]? = σ[k]?) ∧ st[σ.length]? = some (some (.cells [.rs ia 2 0 (runsOf low w l).length (some 116)])) ∧ st[ia]? = some (some (.cells (rnC (runsOf low w l)))) ∧ σ.length < ia) ?_ ?_
  · simp only [go_sem, Tryz.results91]
    obtain ⟨fr0, hfr0⟩ : ∃ fr0 : Fr, fr0 = [.any, .any, .ref σ.length 0, .any, .any, .any, .fn (.func 92) [] [.ref iw 0, .ref iin 0, .ref il 0], .any, .any, .any, .any, .any, .any] := ⟨_, rfl⟩
    refine aw_range hpan ⟨fr0, _, by rw [hfr0]; exact (Weak.mask [2, 6]).trans (Weak.emptyIn 0 0 2 (some 116) rfl rfl), by rw [hfr0]; simp [bdL, A.bd]; omega, 92, [], [.ref iw 0, .ref iin 0, .ref il 0], by rw [hfr0]; rfl, fun q r hY => ?_⟩
    simp only [List.set_cons_succ, List.set_cons_zero, List.length_cons, List.length_nil, List.cons_append, List.nil_append, Nat.reduceAdd, List.append_assoc, List.length_append] at hY ⊢
    have q1 : ∀ k τ, k < σ.length → (σ ++ τ)[k]? = σ[k]? := fun k τ hk => List.getElem?_append_left hk
    refine runs1_ac low w hlw l hl hp hb (iw := iw) (iin := iin) (il := il) _ (fun acc st => Rr σ iw iin il low w (.lp q r fr0) acc st) G (fun st hst => ?_) (by rw [q1 _ _ l2]; exact hin) (fun acc st hI => ⟨?_, ?_⟩) (fun acc st st' hI hk hle => ?_) hne ?_ (fun acc x st hsl hal hI => ?_) _ (fun r' st hI => ?_)
    · have e1 := hst (σ.length + 2) (by simp) (by omega)
      have e2 := hst σ.length (by simp) (by omega)
      have e3 := hst (σ.length + 1) (by simp) (by omega)
      refine ⟨by rw [e1]; simp, fun k hk hn => ?_, σ.length + 1, by omega, by omega, by omega, by rw [e2]; simp, by rw [e3]; simp [rnC]⟩
      rw [hst k (by simp; omega) hn, q1 _ _ hk]
    · rw [hI.old _ l1 hne.1]; exact hw
    · rw [hI.old _ l3 hne.2]; exact hlo
    · obtain ⟨ilp, iold, ia, n1, n2, n3, hst, hia⟩ := hI
      have b1 := lt_of_some ilp
      have b2 := lt_of_some hia
      have e1 : ∀ k, k < st.length → k ≠ σ.length + 3 → k ≠ iin → st'[k]? = st[k]? := fun k h1 h2 h3 => hk k h1 (by simpa using h2) h3
      refine ⟨by rw [e1 _ b1 (by omega) (by omega)]; exact ilp, fun k h1 h2 => by rw [e1 k (by omega) (by omega) h2]; exact iold k h1 h2, ia, n1, n2, n3, by rw [e1 _ (by omega) (by omega) (by omega)]; exact hst, by rw [e1 _ b2 n2 (by omega)]; exact hia⟩
    · simp; omega
    · obtain ⟨ilp, iold, ia, n1, n2, n3, hst, hia⟩ := hI
      have hsl2 : σ.length + 3 < st.length := by simpa using hsl
      refine hY _ _ _ ⟨ilp, rfl, ?_⟩
      have hset : setPs fr0 [7] [.d (rnD x)] = [.any, .any, .ref σ.length 0, .any, .any, .any, .fn (.func 92) [] [.ref iw 0, .ref iin 0, .ref il 0], .d (rnD x), .any, .any, .any, .any, .any] := by rw [hfr0]; rfl
      rw [hset]
      simp only [rnD, isD, go_sem]
      have ilpl := lt_of_some ilp
      have ilp' : ∀ τ, (st ++ τ)[σ.length + 2]? = some (some (.lp q r fr0)) := fun τ => by rw [List.getElem?_append_left ilpl]; exact ilp
      refine ⟨ilp' _, ?_⟩
      obtain ⟨s2, hs2⟩ : ∃ s2, (st ++ [some (Ob.cells [A.d (D.int .i64 (x.1 : Int)), A.d (D.sl 1 ((nL x.2).map iD))])]).set (σ.length + 2) (some (.lp q { r with state := .busy } fr0)) = s2 := ⟨_, rfl⟩
      have hv2 : s2[st.length]? = some (some (.cells [A.d (D.int .i64 (x.1 : Int)), A.d (D.sl 1 ((nL x.2).map iD))])) := by rw [← hs2, set_other (by omega)]; simp
      have old2 : ∀ k, k < st.length → k ≠ σ.length + 2 → s2[k]? = st[k]? := fun k hk hn => by rw [← hs2, set_other (Ne.symm hn), List.getElem?_append_left hk]
      have hst2 : s2[σ.length]? = some (some (.cells [.rs ia 2 0 acc.length (some 116)])) := by rw [old2 _ (by omega) (by omega)]; exact hst
      have hia2 : s2[ia]? = some (some (.cells (rnC acc))) := by rw [old2 _ (lt_of_some hia) n1]; exact hia
      have hpl := rnC_len acc
      have l2' : s2.length = st.length + 1 := by rw [← hs2, List.length_set]; simp
      have hial := lt_of_some hia2
      have hisl := lt_of_some hst2
      rw [hs2]
      simp only [go_sem, live_of hst2, objK_of hst2, live_of hia2, objK_of hia2, objK_old hia2, live_of hv2, objK_of hv2, toDs, Tryz.results91]
      obtain ⟨s3, hs3⟩ : ∃ s3, (List.set (s2 ++ [some (Ob.cells [A.d (D.int IntKind.i64 (x.1 : Int)), A.d (D.sl 1 ((nL x.2).map iD))])]) ia none ++ [some (Ob.cells (rnC acc ++ [A.d (D.int IntKind.i64 (x.1 : Int)), A.d (D.sl 1 ((nL x.2).map iD))]))]) = s3 := ⟨_, rfl⟩
      rw [hs3]
      have g3 : ∀ k, k < s2.length → k ≠ ia → s3[k]? = s2[k]? := fun k hk hne => by
        rw [← hs3, List.getElem?_append_left (by simp; omega), List.getElem?_set_ne (Ne.symm hne), List.getElem?_append_left hk]
      have h3 : s3[σ.length]? = some (some (.cells [.rs ia 2 0 acc.length (some 116)])) := by rw [g3 _ hisl (by omega)]; exact hst2
      have h4 : s3[s2.length + 1]? = some (some (.cells (rnC (acc ++ [x])))) := by
        rw [← hs3, List.getElem?_append_right (by simp)]
        simp [rnC, isD, iD]
      have l3' : s3.length = s2.length + 2 := by rw [← hs3]; simp
      simp only [live_of h3, objK_of h3, live_of h4]
      refine ⟨⟨by omega, by simp only [maxLen]; omega, by omega⟩, ⟨trivial, by simp⟩, ?_⟩
      refine ⟨_, Weak.refl _ _ _ _, ?_, rfl, ?_⟩
      · rw [List.getElem?_set_ne (by omega), g3 _ (by omega) (Ne.symm n1), ← hs2]
        exact set_same (ilp' _)
      · have g5 : ∀ k, k < st.length → k ≠ ia → k ≠ σ.length → k ≠ σ.length + 2 → (List.set (List.set s3 σ.length (some (.cells (A.rs (s2.length + 1) 2 0 (acc.length + 1) (some 116) :: List.drop 1 [A.rs ia 2 0 acc.length (some 116)])))) (σ.length + 2) (some (.lp q r fr0)))[k]? = st[k]? := fun k hk k1 k2 k3 => by
          rw [List.getElem?_set_ne (Ne.symm k3), List.getElem?_set_ne (Ne.symm k2), g3 k (by omega) k1, old2 k hk k3]
        refine ⟨⟨List.getElem?_set_self (by rw [List.length_set]; omega), fun k hk hn => ?_, s2.length + 1, by omega, by omega, by omega, ?_, ?_⟩, g5 _ hsl2 (Ne.symm n2) (by omega) (by omega), g5 _ (by omega) (by omega) (by omega) (by omega), by rw [List.length_set, List.length_set]; omega⟩
        · rw [g5 k (by omega) (by omega) (by omega) (by omega)]; exact iold k hk hn
        · rw [List.getElem?_set_ne (by omega), List.getElem?_set_self (by omega), List.length_append]; rfl
        · rw [List.getElem?_set_ne (by omega), List.getElem?_set_ne (by omega)]; exact h4
    · obtain ⟨ilp, iold, ia, n1, n2, n3, hst, hia⟩ := hI
      refine .inl ⟨ilp, _, _, Weak.refl _ _ _ _, ?_⟩
      simp only [go_sem]
      refine Wk.mask [2] ⟨ia, by rw [hfr0]; rfl, fun k hk hn => ?_, ?_, ?_, n3⟩
      · rw [List.getElem?_set_ne (by omega)]; exact iold k hk hn
      · rw [List.getElem?_set_ne (by omega)]; exact hst
      · rw [List.getElem?_set_ne (by omega)]; exact hia
  · rintro fr st ⟨ia, rfl, hold, hst, hia, hlt⟩
    have := lt_of_some hia
    simp only [go_sem, live_of hst, objK_of hst, live_of hia, Tryz.results91]
    refine ret_via (Weak.freeze ia 2 0 ((runsOf low w l).map rnD) hia (rnC_lies _)) ?_
    simp only [go_sem, List.length_map]
    refine ⟨_, _, Weak.refl _ _ _ _, h _ (by rw [List.length_set]; omega) fun k hk hn => ?_⟩
    rw [List.getElem?_set_ne (by omega)]
    exact hold k hk hn
theorem collect_ac (low w : Nat) (hlw : low + w ≤ 12) (l : List Nat) (hl : l.length ≤ 4096) (hp : l.Pairwise (· < ·)) (hb : ∀ n ∈ l, n < 4096) {iw iin il : Nat} (σ : St) (hw : σ[iw]? = some (some (.cells [dn w]))) (hin : σ[iin]? = some (some (.cells [.d (isD (nL l))]))) (hlo : σ[il]? = some (some (.cells [dn low]))) (hne : iw ≠ iin ∧ il ≠ iin)
    (G : Glob) (hpan : ∀ a s, ¬ G.pan a s) (R : A → St → Prop) (h : ∀ st, σ.length ≤ st.length → (∀ k, k < σ.length → k ≠ iin → st[k]? = σ[k]?) → R (.d (rnsD (runsOf low w l))) st) : AC Tryz.prog G 72 [.fn (.func 92) [] [.ref iw 0, .ref iin 0, .ref il 0]] σ R := by
  refine ac_enter' mixed Tryz.func72 rfl Tryz.ntmps72 (by simp only [go_sem]) fun hbd => ?_
  simp only [List.length_cons, List.length_nil, Nat.reduceAdd, Nat.reduceSub, List.replicate_succ, List.replicate_zero, List.cons_append, List.nil_append]
  simp only [go_sem, Tryz.results72]
  refine ac' (append_runs low w hlw l hl hp hb σ hw hin hlo hne G hpan _ fun st h1 h2 => ?_)
  simp only [go_sem, Tryz.results72]
  exact ⟨_, _, Weak.refl _ _ _ _, h st h1 h2⟩
end Go.Proofs.YtmjlhbkgljcnoaaGreatDoor
end PartT26

section PartT27
/- A set's tree: members, trees of runs. -/
set_option linter.unusedSimpArgs false
set_option linter.unusedVariables false
set_option maxRecDepth 100000
namespace Go.Proofs.YtmjlhbkgljcnoaaGreatDoor
open Go Go.Ab

theorem cL_snoc (ws : List Nat) (w : Nat) : cL (ws ++ [w]) = cL ws ++ [ws.length] := by
  unfold cL
  rw [List.length_append, List.length_cons, List.length_nil, Nat.zero_add, List.range_succ]
theorem cL_length (ws : List Nat) : (cL ws).length = ws.length := by unfold cL; rw [List.length_range]
/-- A list that lies in a set's numbers. -/
structure Ls (b : Nat) (l : List Nat) : Prop where
  pair : l.Pairwise (· < ·)
  lt : ∀ n ∈ l, n < 2 ^ b
theorem Ls.len {b : Nat} {l : List Nat} (h : Ls b l) : l.length ≤ 2 ^ b := nodup_bound (h.pair.imp fun hab e => by omega) h.lt
theorem Ls.part {low w : Nat} {l : List Nat} (h : Ls (w + low) l) (u : Nat) : Ls low (partOf low l u) := ⟨part_pair h.pair, fun n hn => by
  unfold partOf at hn
  obtain ⟨m, -, rfl⟩ := List.mem_map.1 hn
  exact Nat.mod_lt _ (Nat.pow_pos (by decide))⟩
theorem grp_in {P : List Nat → Prop} : ∀ (ps : List (List Nat)) (v : Nat) (cur : List Nat), P cur → (∀ p ∈ ps, P p) → ∀ r ∈ grp v cur ps, P r.2
  | [], v, cur, hc, hp, r, hr => by
    unfold grp at hr
    rw [List.mem_singleton] at hr
    rw [hr]; exact hc
  | p :: ps, v, cur, hc, hp, r, hr => by
    unfold grp at hr
    have h2 : ∀ q ∈ ps, P q := fun q hq => hp q (List.mem_cons_of_mem _ hq)
    split at hr
    · exact grp_in ps _ _ hc h2 r hr
    · rcases List.mem_cons.1 hr with rfl | hr
      · exact hc
      · exact grp_in ps _ _ (hp p (by simp)) h2 r hr
theorem runs_in {low w : Nat} {l : List Nat} (h : Ls (w + low) l) : ∀ r ∈ runsOf low w l, Ls low r.2 := grp_in _ _ _ (h.part 0) fun p hp => by
  obtain ⟨i, -, rfl⟩ := List.mem_map.1 hp
  exact h.part _
def MemC (ws : List Nat) : Prop := ∀ (l : List Nat), Ls ws.sum l → ∀ (σ : St) (G : Glob) (hpan : ∀ a s, ¬ G.pan a s) (R : A → St → Prop), R (.d (mem (csR ws) l).ex.d) σ → AC Tryz.prog G 46 [.d (isD (nL (cL ws))), .d (isD (nL ws)), .d (isD (nL l))] σ R
set_option maxHeartbeats 4000000 in
theorem tree_ac (ws : List Nat) (w : Nat) (hl : ws.length ≤ 12) (hM : MemC ws) : ∀ (g : Nat) (rs : List (Nat × List Nat)), rs ≠ [] → rs.length ≤ g → rs.length ≤ 4096 → (∀ r ∈ rs, Ls ws.sum r.2) → ∀ (σ : St) (G : Glob) (hpan : ∀ a s, ¬ G.pan a s) (R : A → St → Prop), R (.d (treeD (mem (csR ws)) ws.length w g rs).ex.d) σ → AC Tryz.prog G 71 [.d (isD (nL (cL (ws ++ [w])))), .d (isD (nL (ws ++ [w]))), .d (rnsD rs)] σ R
  | 0, rs, hne, hg, _, _ => absurd (List.eq_nil_of_length_eq_zero (Nat.le_zero.1 hg)) hne
  | g + 1, rs, hne, hg, h4, hr => fun σ G hpan R h => by
    have ih := tree_ac ws w hl hM g
    have e1 : nL (cL (ws ++ [w])) = nL (cL ws) ++ [(ws.length : Int)] := by rw [cL_snoc]; simp [nL]
    have e2 : nL (ws ++ [w]) = nL ws ++ [(w : Int)] := by simp [nL]
    have lc : (nL (cL ws)).length = ws.length := by rw [nL_len, cL_length]
    have lw : (nL ws).length = ws.length := nL_len ws
    have v1 : IntKind.i64.wrap (((ws.length + 1 : Nat) : Int) - 1) = (ws.length : Int) := by rw [wrap64_id _ (by omega) (by omega)]; omega
    have hp : 0 < rs.length := List.length_pos_iff.2 hne
    have t1 : List.take ws.length (List.map iD (nL (cL ws) ++ [(ws.length : Int)])) = List.map iD (nL (cL ws)) := by rw [List.map_append, List.take_left' (by rw [List.length_map, lc])]
    have t2 : List.take ws.length (List.map iD (nL ws ++ [(w : Int)])) = List.map iD (nL ws) := by rw [List.map_append, List.take_left' (by rw [List.length_map, lw])]
    unfold treeD at h
    refine ac_enterC' [6] mixed Tryz.func71 rfl Tryz.ntmps71 (by simp only [go_sem]) fun hbd => ?_
    simp only [List.length_cons, List.length_nil, Nat.reduceAdd, Nat.reduceSub, List.replicate_succ, List.replicate_zero, List.cons_append, List.nil_append]
    simp only [isD, rnsD, e1, e2, go_sem, List.length_map, List.length_append, List.length_cons, List.length_nil, Nat.zero_add, lc, lw, v1, Tryz.results71]
    by_cases h1 : rs.length = 1
    · rw [if_pos h1] at h
      obtain ⟨r, rfl⟩ : ∃ r, rs = [r] := List.length_eq_one_iff.1 h1
      have hd : (((1 : Nat) : Int) == 1) = true := rfl
      have q0 : ([rnD r] : List D).getD (Int.toNat 0) default = .agg [iD (r.1 : Nat), isD (nL r.2)] := rfl
      simp only [go_sem, hd, List.map_cons, List.map_nil, Tryz.results71]
      refine aw_plan (.tk 12 0 <| .done) (by kernel_rfl) ?_
      simp only [go_sem, q0, List.length_cons, List.length_nil, List.length_map, List.length_append, lc, lw, t1, t2, Int.toNat_natCast, Tryz.results71]
      refine ⟨⟨by omega, by omega, by omega⟩, ⟨by omega, by omega, by omega⟩, ⟨by omega, by omega⟩, ?_⟩
      refine ac' (hM r.2 (hr r (by simp)) _ _ hpan _ ?_)
      have hh : ∀ e : Ex, e.d = .agg [iD e.op, iD e.w, iD e.n, .sl 4 (e.kids.map Ex.d)] := Ex.d_eq
      simp only [List.headD_cons] at h
      rw [hh] at h ⊢
      simp only [go_sem, Tryz.results71]
      exact ret_d hbd h
    · have hd : (((rs.length : Nat) : Int) == 1) = false := by rw [beq_eq_false_iff_ne]; omega
      rw [if_neg h1] at h
      obtain ⟨H, hH⟩ : ∃ H, (rs.length + 1) / 2 = H := ⟨_, rfl⟩
      rw [hH] at h
      have v2 : IntKind.i64.wrap ((rs.length : Int) + 1) = ((rs.length + 1 : Nat) : Int) := wrapS _ (by omega)
      have v3 : IntKind.i64.wrap ((((rs.length + 1 : Nat) : Int)).tdiv 2) = (H : Int) := by
        rw [← hH, Int.tdiv_eq_ediv_of_nonneg (by omega), wrap64_id _ (by omega) (by omega)]; omega
      have v4 : IntKind.i64.wrap ((H : Int) - 1) = ((H - 1 : Nat) : Int) := by rw [wrap64_id _ (by omega) (by omega)]; omega
      have q1 : ((nL (cL ws) ++ [(ws.length : Int)]).map iD).getD ws.length default = .int .i64 (ws.length : Int) := by
        rw [List.getD_eq_getElem?_getD, List.getElem?_map, List.getElem?_append_right (by omega), lc, Nat.sub_self]; rfl
      have q2 : ((nL ws ++ [(w : Int)]).map iD).getD ws.length default = .int .i64 (w : Int) := by
        rw [List.getD_eq_getElem?_getD, List.getElem?_map, List.getElem?_append_right (by omega), lw, Nat.sub_self]; rfl
      have q3 : (rs.map rnD).getD (H - 1) default = .agg [iD ((rs.getD (H - 1) (0, [])).1 : Nat), isD (nL (rs.getD (H - 1) (0, [])).2)] := by
        rw [List.getD_eq_getElem?_getD, List.getElem?_map, List.getElem?_eq_getElem (by omega), List.getD_eq_getElem?_getD, List.getElem?_eq_getElem (by omega)]; rfl
      have hli : ∀ x : Int, Lies [.d (iD 2), .d (iD w), .d (iD ws.length), .d (.sl 4 []), .d (iD 1), .d (iD w), .d (iD x), .d (.sl 4 [])] 4 0 [(Ex.mk 2 w ws.length []).d, (Ex.mk 1 w x []).d] := fun x => by
        have := exC_lies [Ex.mk 2 w ws.length [], Ex.mk 1 w x []]
        exact this
      simp only [go_sem, hd, v2, v3, Tryz.results71]
      refine ⟨by omega, ?_⟩
      refine aw_cut (fun fr st => fr = [.d (isD (nL (cL (ws ++ [w])))), .d (isD (nL (ws ++ [w]))), .d (rnsD rs), .any, .any, .any, .ref σ.length 0, dn ws.length, dn H, .ref (σ.length + 1) 0, .any, .any, .any, .any, .any, .any, .any, .any, .any, .any, .any, .any, .any, .any, .any, .any, .any, .any, .any, .any, .any, .any, .any, .any, .any, .any, .any, .any, .any, .any, .any, .any, .any, .any, .any, .any, .any, .any, .any, .any, .any, .any, .any, .any, .any, .any, .any, .any, .any, .any, .any, .any, .any, .any, .any, .any, .any, .any] ∧ st = σ ++ [some (.cells [di 0, di 0, di 0, .d .nils]), some (.cells [di 13, di 1, di 0, .d (.sl 4 [(Ex.mk 2 w ws.length []).d, (Ex.mk 1 w (rs.getD (H - 1) (0, [])).1 []).d])])]) ?_ ?_
      · simp only [go_sem, Tryz.results71]
        refine aw_plan (.tk 20 0 <| .alt 20 (.tk 3 21 <| .done) <| .alt 22 (.tk 2 20 <| .take 23 <| .done) <| .stop) (by kernel_rfl) ?_
        simp only [go_sem, q1, q2, q3, v4, List.length_cons, List.length_nil, List.length_map, List.length_append, lc, lw, Int.toNat_natCast, Tryz.results71]
        refine ⟨⟨by omega, by omega⟩, ⟨by omega, by omega⟩, ⟨by omega, by omega⟩, ⟨by omega, by omega⟩, ?_, ?_⟩
        · refine Wk.nilsO 1 (cs' := [.d (iD 2), .d (iD w), .d (iD ws.length), .d (.sl 4 []), .d (iD 1), .d (iD w), .d (iD (rs.getD (H - 1) (0, [])).1), .d (.sl 4 [])]) rfl ?_ ?_
          · repeat' first | exact NilAL.nil | apply NilAL.cons | exact NilA.refl _ | apply NilA.d | exact NilD.nil _
          refine Wk.via (Weak.freezeIn (G := G) (n0 := σ.length) 1 2 4 0 [(Ex.mk 2 w ws.length []).d, (Ex.mk 1 w (rs.getD (H - 1) (0, [])).1 []).d] rfl (hli _) rfl (by decide)) ?_
          simp only [go_sem]
          refine Wk.keep [0, 1, 2, 6, 7, 8, 9] [0, 2] (by decide) (Nat.le_refl _) hbd ⟨?_, ?_⟩
          · simp only [isD, rnsD, e1, e2, go_sem]
          · simp only [go_sem, List.take_succ_cons, List.take_zero, List.drop_zero]
        · refine Wk.nilsO 2 (cs' := [.d (iD 2), .d (iD w), .d (iD ws.length), .d (.sl 4 []), .d (iD 1), .d (iD w), .d (iD (rs.getD (H - 1) (0, [])).1), .d (.sl 4 [])]) rfl ?_ ?_
          · repeat' first | exact NilAL.nil | apply NilAL.cons | exact NilA.refl _ | apply NilA.d | exact NilD.nil _
          refine Wk.via (Weak.freezeIn (G := G) (n0 := σ.length) 2 1 4 0 [(Ex.mk 2 w ws.length []).d, (Ex.mk 1 w (rs.getD (H - 1) (0, [])).1 []).d] rfl (hli _) rfl (by decide)) ?_
          simp only [go_sem]
          refine Wk.keep [0, 1, 2, 6, 7, 8, 9] [0, 1] (by decide) (Nat.le_refl _) hbd ⟨?_, ?_⟩
          · simp only [isD, rnsD, e1, e2, go_sem]
          · simp only [go_sem, List.take_succ_cons, List.take_zero, List.drop_zero]
      · rintro fr st ⟨rfl, rfl⟩
        obtain ⟨L, hL⟩ : ∃ L, treeD (mem (csR ws)) ws.length w g (rs.take H) = L := ⟨_, rfl⟩
        obtain ⟨Q, hQ⟩ : ∃ Q, treeD (mem (csR ws)) ws.length w g (rs.drop H) = Q := ⟨_, rfl⟩
        have iL : ∀ σ', AC Tryz.prog G 71 [.d (.sl 1 ((nL (cL ws) ++ [(ws.length : Int)]).map iD)), .d (.sl 1 ((nL ws ++ [(w : Int)]).map iD)), .d (.sl 2 ((rs.map rnD).take H))] σ' (fun r s => r = .d (.agg [iD L.ex.op, iD L.ex.w, iD L.ex.n, .sl 4 (L.ex.kids.map Ex.d)]) ∧ s = σ') := fun σ' => by
          have := ih (rs.take H) (by intro e; have := congrArg List.length e; rw [List.length_take, List.length_nil] at this; omega) (by rw [List.length_take]; omega) (by rw [List.length_take]; omega) (fun r hr' => hr r (List.mem_of_mem_take hr')) σ' G hpan (fun r s => r = .d (.agg [iD L.ex.op, iD L.ex.w, iD L.ex.n, .sl 4 (L.ex.kids.map Ex.d)]) ∧ s = σ') ⟨by rw [hL, ← Ex.d_eq], rfl⟩
          simpa only [isD, rnsD, e1, e2, List.map_take] using this
        have iQ : ∀ σ', AC Tryz.prog G 71 [.d (.sl 1 ((nL (cL ws) ++ [(ws.length : Int)]).map iD)), .d (.sl 1 ((nL ws ++ [(w : Int)]).map iD)), .d (.sl 2 ((rs.map rnD).drop H))] σ' (fun r s => r = .d (.agg [iD Q.ex.op, iD Q.ex.w, iD Q.ex.n, .sl 4 (Q.ex.kids.map Ex.d)]) ∧ s = σ') := fun σ' => by
          have := ih (rs.drop H) (by intro e; have := congrArg List.length e; rw [List.length_drop, List.length_nil] at this; omega) (by rw [List.length_drop]; omega) (by rw [List.length_drop]; omega) (fun r hr' => hr r (List.mem_of_mem_drop hr')) σ' G hpan (fun r s => r = .d (.agg [iD Q.ex.op, iD Q.ex.w, iD Q.ex.n, .sl 4 (Q.ex.kids.map Ex.d)]) ∧ s = σ') ⟨by rw [hQ, ← Ex.d_eq], rfl⟩
          simpa only [isD, rnsD, e1, e2, List.map_drop] using this
        have tk : (rs.map rnD).take rs.length = rs.map rnD := List.take_of_length_le (by simp)
        rw [hL, hQ] at h
        simp only [isD, rnsD, e1, e2, go_sem, Tryz.results71]
        refine aw_plan (.tk 5 1 <| .tk 4 7 <| .pure 6 <| .take 11 <| .pure 12 <| .take 0 <| .tk 3 13 <| .done) (by kernel_rfl) ?_
        simp only [go_sem, tk, List.length_cons, List.length_nil, List.length_map, List.length_append, Int.toNat_natCast, Tryz.results71]
        refine ⟨⟨by omega, by omega, by omega⟩, Go.Ab.exP (.d (.agg [iD L.ex.op, iD L.ex.w, iD L.ex.n, .sl 4 (L.ex.kids.map Ex.d)])) ⟨fun σ' => ac' (iL σ'), ?_⟩⟩
        simp only [go_sem, tk, List.length_cons, List.length_nil, List.length_map, List.length_append, Int.toNat_natCast, Tryz.results71]
        refine ⟨⟨by omega, by omega, by omega⟩, Go.Ab.exP (.d (.agg [iD Q.ex.op, iD Q.ex.w, iD Q.ex.n, .sl 4 (Q.ex.kids.map Ex.d)])) ⟨fun σ' => ?_, ?_⟩⟩
        · have := iQ σ'
          simp only [go_sem, tk]
          exact ac' this
        simp only [go_sem, tk, List.length_cons, List.length_nil, List.length_map, List.length_append, Int.toNat_natCast, Tryz.results71]
        refine ret_frz 2 4 0 ([Ex.mk 13 1 0 [Ex.mk 2 w ws.length [], Ex.mk 1 w (rs.getD (H - 1) (0, [])).1 []], L.ex, Q.ex].map Ex.d) rfl (exC_lies [Ex.mk 13 1 0 [Ex.mk 2 w ws.length [], Ex.mk 1 w (rs.getD (H - 1) (0, [])).1 []], L.ex, Q.ex]) ?_
        simp only [Dt.ex] at h
        rw [d_mk] at h
        simp only [go_sem, List.length_map, List.length_cons, List.length_nil]
        exact ret_d hbd h
theorem mem_full {ws l : List Nat} (h0 : l ≠ []) (h : l.length = 2 ^ ws.sum) : mem (csR ws) l = .leaf true := by
  rcases List.eq_nil_or_concat ws with rfl | ⟨ws0, w, rfl⟩
  · show Dt.leaf (decide (l ≠ [])) = _
    rw [decide_eq_true h0]
  · rw [List.concat_eq_append] at h ⊢
    rw [← bits_csR, csR_snoc] at h
    rw [csR_snoc]
    unfold mem
    rw [if_neg h0, if_pos h]
theorem mem_none (ws : List Nat) : mem (csR ws) [] = .leaf false := by
  rcases List.eq_nil_or_concat ws with rfl | ⟨ws0, w, rfl⟩
  · rfl
  · rw [List.concat_eq_append, csR_snoc]
    unfold mem
    rw [if_pos rfl]
set_option maxHeartbeats 4000000 in
theorem mem_step (ws : List Nat) (hl : ws.length ≤ 12) (h8 : ∀ w ∈ ws, w ≤ 8) (h12 : ws.sum ≤ 12) (ih : ∀ ws0 w, ws = ws0 ++ [w] → MemC ws0) : MemC ws := fun l hL σ G hpan R h => by
  have hlen := hL.len
  have hp12 := pow12 h12
  have v1 : bShl 1 (ws.sum : Int) = ((2 ^ ws.sum : Nat) : Int) := bShl_one (by omega)
  refine ac_enter mixed Tryz.func46 rfl Tryz.ntmps46 (by simp only [go_sem]) fun hbd => ?_
  simp only [List.length_cons, List.length_nil, Nat.reduceAdd, Nat.reduceSub, List.replicate_succ, List.replicate_zero, List.cons_append, List.nil_append]
  simp only [go_sem, Tryz.results46]
  refine ac' (sum_ac ws (by omega) h8 _ _ _ ?_)
  by_cases h0 : l = []
  · subst h0
    rw [mem_none] at h
    have hd : (((0 : Nat) : Int) == 0) = true := rfl
    simp only [isD, nL, List.map_nil, List.length_nil, go_sem, hd, Tryz.results46]
    exact leaf_end hbd h
  · have hpos : 0 < l.length := List.length_pos_iff.2 h0
    have hd : ((l.length : Int) == 0) = false := by rw [beq_eq_false_iff_ne]; omega
    by_cases h1 : l.length = 2 ^ ws.sum
    · rw [mem_full h0 h1] at h
      have hd1 : ((l.length : Int) == ((2 ^ ws.sum : Nat) : Int)) = true := by rw [beq_iff_eq, h1]
      simp only [isD, go_sem, hd, hd1, v1, nL_len, List.length_map, Tryz.results46]
      refine ⟨by omega, ?_⟩
      exact leaf_end hbd h
    · have hd1 : ((l.length : Int) == ((2 ^ ws.sum : Nat) : Int)) = false := by rw [beq_eq_false_iff_ne]; omega
      rcases List.eq_nil_or_concat ws with rfl | ⟨ws0, w, rfl⟩
      · simp at h1 hlen; omega
      rw [List.concat_eq_append] at *
      have hM := ih ws0 w rfl
      have hsum : (ws0 ++ [w]).sum = w + ws0.sum := by simp; omega
      have hl1 : ws0.length + 1 ≤ 12 := by simpa using hl
      have hw8 : w ≤ 8 := h8 w (by simp)
      have e1 : nL (cL (ws0 ++ [w])) = nL (cL ws0) ++ [(ws0.length : Int)] := by rw [cL_snoc]; simp [nL]
      have e2 : nL (ws0 ++ [w]) = nL ws0 ++ [(w : Int)] := by simp [nL]
      have lc : (nL (cL ws0)).length = ws0.length := by rw [nL_len, cL_length]
      have lw : (nL ws0).length = ws0.length := nL_len ws0
      have v2 : IntKind.i64.wrap (((ws0.length + 1 : Nat) : Int) - 1) = (ws0.length : Int) := by rw [wrap64_id _ (by omega) (by omega)]; omega
      have q2 : ((nL ws0 ++ [(w : Int)]).map iD).getD ws0.length default = .int .i64 (w : Int) := by
        rw [List.getD_eq_getElem?_getD, List.getElem?_map, List.getElem?_append_right (by omega), lw, Nat.sub_self]; rfl
      have v3 : IntKind.i64.wrap (((ws0 ++ [w]).sum : Int) - (w : Int)) = (ws0.sum : Int) := by rw [hsum, wrap64_id _ (by omega) (by omega)]; omega
      have hm : mem (csR (ws0 ++ [w])) l = treeD (mem (csR ws0)) ws0.length w (2 ^ w) (runsOf ws0.sum w l) := by
        rw [csR_snoc]
        unfold mem
        rw [if_neg h0, if_neg (by rw [← csR_snoc, bits_csR]; exact h1), bits_csR]
      rw [hm] at h
      rw [hsum] at hL
      simp only [isD, e1, e2, go_sem, hd, hd1, v1, lc, lw, v2, v3, q2, nL_len, List.length_map, List.length_append, List.length_cons, List.length_nil, Nat.zero_add, Int.toNat_natCast, Tryz.results46]
      refine ⟨by omega, ?_⟩
      refine ⟨⟨by omega, by omega⟩, ⟨by omega, by omega⟩, ?_⟩
      refine ac' (runs_ac ws0.sum w l _ _ _ ?_)
      simp only [go_sem, List.length_append, List.length_cons, List.length_nil, List.append_assoc, List.cons_append, List.nil_append, Nat.add_assoc, Nat.reduceAdd, Tryz.results46]
      have hb : ∀ n ∈ l, n < 4096 := fun n hn => by
        have := hL.lt n hn
        rw [← hsum] at this
        omega
      refine ac' (collect_ac ws0.sum w (by omega) l (by omega) hL.pair hb _ (by simp) (by simp) (by simp) (by omega) _ hpan _ fun st g1 g2 => ?_)
      simp only [go_sem, Tryz.results46]
      have ht := tree_ac ws0 w (by omega) hM (2 ^ w) (runsOf ws0.sum w l) (grp_ne _ _ _) runs_len (Nat.le_trans runs_len (pow12 (by omega))) (runs_in hL) st G hpan
      simp only [isD, e1, e2] at ht
      refine ac' (ht _ ?_)
      have g3 : st[σ.length]? = some (some (.cells [A.d (.int .i64 0), A.d (.int .i64 0), A.d (.int .i64 0), A.d .nils])) := by rw [g2 _ (by simp) (by omega)]; simp
      have lst := lt_of_some g3
      rw [Ex.d_eq] at h ⊢
      simp only [go_sem, live_of g3, objK_of g3, Srt.objK_set lst, toDs, Tryz.results46]
      refine ret_pre hbd rfl (by simp; omega) (fun k hk => ?_) h
      rw [List.getElem?_set_ne (by omega), g2 k (by simp; omega) (by omega), List.getElem?_append_left hk]
theorem member_ac : ∀ (k : Nat) (ws : List Nat), ws.length = k → k ≤ 12 → (∀ w ∈ ws, w ≤ 8) → ws.sum ≤ 12 → MemC ws
  | 0, ws, hk, h12, h8, hs => mem_step ws (by omega) h8 hs fun ws0 w e => by rw [e] at hk; simp at hk
  | k + 1, ws, hk, h12, h8, hs => mem_step ws (by omega) h8 hs fun ws0 w e => by
    subst e
    exact member_ac k ws0 (by simpa using hk) (by omega) (fun x hx => h8 x (by simp [hx])) (by simp at hs; omega)
end Go.Proofs.YtmjlhbkgljcnoaaGreatDoor
end PartT27

section PartT28
/- A set's expression; comparisons of sets. -/
set_option linter.unusedSimpArgs false
set_option linter.unusedVariables false
set_option maxRecDepth 100000
namespace Go.Proofs.YtmjlhbkgljcnoaaGreatDoor
open Go Go.Ab

/-- The expression of a set. -/
def xS (ws l : List Nat) : Ex := (mem (csR ws) l).ex
theorem xS_nodes {ws : List Nat} (h6 : ws.sum ≤ 6) (l : List Nat) : (xS ws l).nodes ≤ 316 := by
  have h1 := ex_nodes (mem (csR ws) l)
  have h2 := mem_leaves (csR ws) l
  rw [bits_csR] at h2
  have h3 : 2 ^ ws.sum ≤ 64 := Nat.pow_le_pow_right (n := 2) (j := 6) (by decide) h6
  unfold xS
  omega
theorem expr_ac (ws l : List Nat) (hS : Ss ws l) (h6 : ws.sum ≤ 6) (hL : Ls ws.sum l) (hlen : ws.length ≤ 12) (h8 : ∀ w ∈ ws, w ≤ 8) (σ : St) (G : Glob) (hpan : ∀ a s, ¬ G.pan a s) (R : A → St → Prop) (h : R (.d (xS ws l).d) σ) : AC Tryz.prog G 10 [.d (setX ws (isD (nL l)))] σ R := by
  have hn := xS_nodes h6 l
  have d1 : decide ((600 : Int) < ((xS ws l).nodes : Int)) = false := by simp only [decide_eq_false_iff_not]; omega
  refine ac_enter mixed Tryz.func10 rfl Tryz.ntmps10 (by simp only [go_sem]) fun hbd => ?_
  simp only [List.length_cons, List.length_nil, Nat.reduceAdd, Nat.reduceSub, List.replicate_succ, List.replicate_zero, List.cons_append, List.nil_append]
  simp only [setX, go_sem, Tryz.results10]
  refine ac' (valid_set ws l hS _ _ _ ?_)
  simp only [isD, go_sem, Tryz.results10]
  refine ac' (member_ac ws.length ws rfl hlen h8 (by omega) l hL _ _ hpan _ ?_)
  rw [show (mem (csR ws) l).ex = xS ws l from rfl]
  have hsz : ∀ (σ : St) (R : A → St → Prop), R (dn (xS ws l).nodes) σ → AC Tryz.prog G 47 [.d (xS ws l).d, di 601] σ R := fun σ R hR => size_prog _ (by omega) σ G R hR
  rw [Ex.d_eq (xS ws l)] at h hsz ⊢
  simp only [go_sem, toDs, Tryz.results10]
  refine ac' (hsz _ _ ?_)
  simp only [go_sem, d1, toDs, Tryz.results10]
  exact ret_d hbd h
theorem ints_ac (xs ys : List Int) (hn : xs.length ≤ 1000000) (hn2 : ys.length ≤ 1000000) (σ : St) (G : Glob) (R : A → St → Prop) (h : R (db (xs == ys)) σ) : AC Tryz.prog G 20 [.d (isD xs), .d (isD ys)] σ R := by
  unfold isD
  by_cases hl : xs.length = ys.length
  · have e0 : ((xs.length : Int) != (ys.length : Int)) = false := by simp [hl]
    refine ac_enter' mixed Tryz.func20 rfl Tryz.ntmps20 (by simp only [go_sem]) fun hbd => ?_
    simp only [List.length_cons, List.length_nil, Nat.reduceAdd, Nat.reduceSub, List.replicate_succ, List.replicate_zero, List.cons_append, List.nil_append]
    simp only [go_sem, List.length_map, e0, Tryz.results20]
    refine aw_loop (fun m fr st => ∃ j : Nat, j ≤ xs.length ∧ m = xs.length - j ∧ xs.take j = ys.take j ∧ st = σ ∧ fr = [.d (.sl 1 (xs.map iD)), .d (.sl 1 (ys.map iD)), .any, .any, .any, dn j, .any, .any, .any, .any, .any, .any, .any, .any, .any, .any, .any, .any, .any, .any, .any, .any, .any, .any, .any, .any]) xs.length _ (Wk.mask [0, 1, 5] ⟨0, by omega, by omega, rfl, rfl, rfl⟩) ?_
    rintro m fr st ⟨j, hj, hm, ht, rfl, rfl⟩
    rcases Nat.lt_or_ge j xs.length with hlt | hge
    · have hd : decide ((j : Int) < (xs.length : Int)) = true := by simp; omega
      have w2 := wrapS j (by omega)
      have hlt2 : j < ys.length := by omega
      simp only [go_sem, hd, List.length_map, Tryz.results20]
      refine aw_plan (.tk 9 0 <| .done) (by kernel_rfl) ?_
      simp only [go_sem, getD_isD hlt, getD_isD hlt2, w2, List.length_map, Int.toNat_natCast, Tryz.results20]
      refine ⟨⟨by omega, by omega⟩, ⟨by omega, by omega⟩, fun c => ?_, fun c => ?_⟩
      · have hne : xs.getD j 0 ≠ ys.getD j 0 := by simpa using c
        have e : (xs == ys) = false := by
          rw [Bool.eq_false_iff]; intro e; simp at e; subst e; exact hne rfl
        rw [e] at h
        exact ret_d0 h
      · have he : xs.getD j 0 = ys.getD j 0 := by simpa using c
        exact Wk.mask [0, 1, 5] ⟨xs.length - (j + 1), by omega, j + 1, by omega, rfl, by rw [take_snoc 0 hlt, take_snoc 0 hlt2, ht, he], rfl, rfl⟩
    · have hd : decide ((j : Int) < (xs.length : Int)) = false := by simp; omega
      obtain rfl : j = xs.length := by omega
      have he : xs = ys := by
        rw [List.take_length, hl, List.take_length] at ht; exact ht
      simp only [go_sem, hd, List.length_map, Tryz.results20]
      rw [he, beq_self_eq_true] at h
      exact ret_d0 h
  · have e0 : ((xs.length : Int) != (ys.length : Int)) = true := by simp; omega
    have he : (xs == ys) = false := by rw [beq_eq_false_iff_ne]; exact fun e => hl (by rw [e])
    rw [he] at h
    refine ac_enterC' [3] mixed Tryz.func20 rfl Tryz.ntmps20 (by simp only [go_sem]) fun hbd => ?_
    simp only [List.length_cons, List.length_nil, Nat.reduceAdd, Nat.reduceSub, List.replicate_succ, List.replicate_zero, List.cons_append, List.nil_append]
    simp only [go_sem]
    refine aw_cut (fun _ _ => False) ?_ (fun _ _ h => h.elim)
    simp only [go_sem, List.length_map, e0, Tryz.results20]
    exact ret_d0 h
theorem isD_beq (a b : List Nat) : (nL a == nL b) = (a == b) := by
  rw [Bool.eq_iff_iff, beq_iff_eq, beq_iff_eq]
  constructor
  · intro h
    have h3 := congrArg (List.map Int.toNat) h
    simpa [nL, List.map_map, Function.comp_def] using h3
  · intro h; rw [h]
theorem sameS_ac (ws a b : List Nat) (hw : ws.length ≤ 1000) (ha : a.length ≤ 1000000) (hb : b.length ≤ 1000000) (σ : St) (G : Glob) (R : A → St → Prop) (h : R (db (a == b)) σ) : AC Tryz.prog G 14 [.d (setX ws (isD (nL a))), .d (setX ws (isD (nL b)))] σ R := by
  have l1 : (nL (cL ws)).length ≤ 1000000 := by rw [nL_len, cL_length]; omega
  have l2 : (nL ws).length ≤ 1000000 := by rw [nL_len]; omega
  refine ac_enter mixed Tryz.func14 rfl Tryz.ntmps14 (by simp only [go_sem]) fun hbd => ?_
  simp only [List.length_cons, List.length_nil, Nat.reduceAdd, Nat.reduceSub, List.replicate_succ, List.replicate_zero, List.cons_append, List.nil_append]
  simp only [setX, go_sem, Tryz.results14]
  refine ac' (ints_ac _ _ l1 l1 _ _ _ ?_)
  rw [beq_self_eq_true]
  simp only [go_sem, Tryz.results14]
  refine ex' (.bool true) ⟨fun _ => ?_, ?_⟩
  · simp only [go_sem]
    exact ac' (ints_ac _ _ l2 l2 _ _ _ (by rw [beq_self_eq_true]; exact ⟨rfl, rfl⟩))
  simp only [go_sem, Tryz.results14]
  refine ex' (.bool (a == b)) ⟨fun _ => ?_, ?_⟩
  · simp only [go_sem]
    exact ac' (ints_ac _ _ (by rw [nL_len]; exact ha) (by rw [nL_len]; exact hb) _ _ _ (by rw [isD_beq]; exact ⟨rfl, rfl⟩))
  simp only [go_sem, Tryz.results14]
  exact ret_d hbd h
end Go.Proofs.YtmjlhbkgljcnoaaGreatDoor
end PartT28

section PartT29
/- What deciding by enumeration says, plainly. -/
set_option linter.unusedSimpArgs false
set_option linter.unusedVariables false
set_option maxRecDepth 100000
namespace Go.Proofs.YtmjlhbkgljcnoaaGreatDoor
open Go Go.Ab

theorem occL_mem {o : Int} : ∀ {k : List Ex} {n : Int}, n ∈ occL o k → ∃ e ∈ k, n ∈ occ o e
  | [], n, h => by simp [occL] at h
  | e :: r, n, h => by
    rw [occL, List.mem_append] at h
    rcases h with h | h
    · exact ⟨e, by simp, h⟩
    · obtain ⟨e', he, hn⟩ := occL_mem h
      exact ⟨e', List.mem_cons_of_mem _ he, hn⟩
theorem occ_lvs {o : Int} (ho : o = 2 ∨ o = 3) : ∀ (l : Nat) (e : Ex), e.deep l = true → ∀ n ∈ occ o e, ∃ m ∈ e.lvs, m.op = o ∧ m.n = n ∧ m.fits = true
  | 0, e, hd, n, hn => by simp [Ex.deep] at hd
  | l + 1, e, hd, n, hn => by
    have hf : e.fits = true := by rw [deep_eq, Bool.and_eq_true] at hd; exact hd.1
    obtain ⟨p, w, c, k⟩ := e
    rw [occ, List.mem_append] at hn
    by_cases hz : k = []
    · subst hz
      rw [Ex.lvs_leaf rfl]
      rcases hn with hn | hn
      · split at hn
        · rename_i hp
          exact ⟨Ex.mk p w c [], by simp, hp, (List.mem_singleton.1 hn).symm, hf⟩
        · simp at hn
      · simp [occL] at hn
    · have hop : p ≠ 3 ∧ p ≠ 2 := by
        have f1 := ((fits_iff _).1 hf).1.1
        have : k.length ≠ 0 := fun h => hz (List.eq_nil_of_length_eq_zero h)
        have := (arity_vals p).1
        simp only [Ex.op, Ex.kids] at f1
        constructor <;> intro o <;> omega
      rw [Ex.lvs_node (e := Ex.mk p w c k) hz]
      rcases hn with hn | hn
      · rw [if_neg (by rcases ho with rfl | rfl; exact hop.2; exact hop.1)] at hn
        simp at hn
      · obtain ⟨e, he, hn⟩ := occL_mem hn
        obtain ⟨m, hm, h1⟩ := occ_lvs ho l e (deep_kid hd he) n hn
        exact ⟨m, List.mem_flatMap.2 ⟨e, he, hm⟩, h1⟩
theorem occ_sup {o : Int} (ho : o = 2 ∨ o = 3) {e : Ex} (hd : e.deep 40 = true) {n : Int} (hn : n ∈ occ o e) : n ∈ idxL (supB o e) 32 := by
  obtain ⟨m, hm, h1, h2, h3⟩ := occ_lvs ho 40 e hd n hn
  have hb : 0 ≤ m.n ∧ m.n < 32 := by
    simp only [Ex.fits, Bool.and_eq_true, decide_eq_true_eq] at h3
    obtain ⟨-, h3⟩ := h3
    rw [if_neg (by omega), if_pos (by omega)] at h3
    simpa using h3
  rw [h2] at hb
  unfold idxL
  refine List.mem_map.2 ⟨n.toNat, List.mem_filter.2 ⟨List.mem_range.2 (by omega), ?_⟩, by show ((n.toNat : Nat) : Int) = n; omega⟩
  rw [supB_at o e (by omega), List.any_eq_true]
  exact ⟨m, hm, by rw [h1, h2]; simp⟩
/-- Values of cells. -/
def Vl (ws : List Nat) (V : List Int) : Prop := ∀ i, i < ws.length → ∃ v : Nat, V.getD i 0 = (v : Int) ∧ v < 2 ^ ws.getD i 0
/-- The implication holds at any two states. -/
def Imp (ws : List Nat) (h g : Ex) : Prop := ∀ old now, Vl ws old → Vl ws now → evN old now h = 1 → evN old now g ≠ 0
theorem offs_mono {ws : List Nat} {l : List Int} {i j : Nat} (h : i ≤ j) (hj : j ≤ l.length) : ∃ d, offs ws l j = offs ws l i + d := by
  induction j with
  | zero => obtain rfl : i = 0 := by omega
            exact ⟨0, rfl⟩
  | succ j ih =>
    rcases Nat.lt_or_ge i (j + 1) with hlt | hge
    · obtain ⟨d, hd⟩ := ih (by omega) (by omega)
      rw [offs_succ (by omega), hd]
      exact ⟨d + ws.getD (l.getD j 0).toNat 0, by omega⟩
    · obtain rfl : i = j + 1 := by omega
      exact ⟨0, rfl⟩
theorem dig_add (r v a w d : Nat) : (r + v * 2 ^ (a + w + d)) / 2 ^ a % 2 ^ w = r / 2 ^ a % 2 ^ w := by
  have e : v * 2 ^ (a + w + d) = 2 ^ a * (2 ^ w * (v * 2 ^ d)) := by
    rw [Nat.pow_add, Nat.pow_add]; ac_rfl
  rw [e, Nat.add_mul_div_left _ _ (Nat.pow_pos (by decide)), Nat.add_mul_mod_self_left]
theorem dig_all (ws : List Nat) (l : List Int) (f : Nat → Nat) (hf : ∀ i, i < l.length → f i < 2 ^ ws.getD (l.getD i 0).toNat 0) : ∀ j, j ≤ l.length → ∃ r, r < 2 ^ offs ws l j ∧ ∀ i, i < j → r / 2 ^ offs ws l i % 2 ^ ws.getD (l.getD i 0).toNat 0 = f i
  | 0, _ => ⟨0, Nat.pow_pos (by decide), fun i h => absurd h (by omega)⟩
  | j + 1, hj => by
    obtain ⟨r, hr, h⟩ := dig_all ws l f hf j (by omega)
    have hfj := hf j (by omega)
    refine ⟨r + f j * 2 ^ offs ws l j, ?_, fun i hi => ?_⟩
    · rw [offs_succ (by omega), Nat.pow_add, Nat.mul_comm (2 ^ offs ws l j)]
      have := Nat.mul_le_mul_right (2 ^ offs ws l j) hfj
      rw [Nat.succ_mul] at this
      omega
    · rcases Nat.lt_or_ge i j with hlt | hge
      · obtain ⟨d, hd⟩ := offs_mono (ws := ws) (l := l) (i := i + 1) (j := j) (by omega) (by omega)
        rw [offs_succ (by omega)] at hd
        rw [hd, dig_add]
        exact h i hlt
      · obtain rfl : i = j := by omega
        rw [Nat.add_mul_div_right _ _ (Nat.pow_pos (by decide)), Nat.div_eq_of_lt hr, Nat.zero_add, Nat.mod_eq_of_lt hfj]
theorem mem_getD {l : List Int} {x : Int} (h : x ∈ l) : ∃ i, i < l.length ∧ l.getD i 0 = x := by
  obtain ⟨i, hi, he⟩ := List.getElem_of_mem h
  exact ⟨i, hi, by rw [List.getD_eq_getElem?_getD, List.getElem?_eq_getElem hi, Option.getD_some, he]⟩
section
variable {cells : List Cel} {ws : List Nat} {h g : Ex} {lo ln : List Int}
theorem ev_agree (hh : Cx cells h) (hg : Cx cells g) (s3 : Sup 3 cells h g lo) (s2 : Sup 2 cells h g ln) {B F old now : List Int} (ho : ∀ x ∈ lo, B.getD x.toNat 0 = old.getD x.toNat 0) (hn : ∀ x ∈ ln, F.getD x.toNat 0 = now.getD x.toNat 0) : evN B F h = evN old now h ∧ evN B F g = evN old now g :=
  ⟨ev_occ h (fun n hm => hn n ((s2.mem n).2 (.inl (occ_sup (.inl rfl) hh.deep hm)))) fun n hm => ho n ((s3.mem n).2 (.inl (occ_sup (.inr rfl) hh.deep hm))),
   ev_occ g (fun n hm => hn n ((s2.mem n).2 (.inr (occ_sup (.inl rfl) hg.deep hm)))) fun n hm => ho n ((s3.mem n).2 (.inr (occ_sup (.inr rfl) hg.deep hm)))⟩
theorem imp_of_holds (hwl : ws.length = cells.length) (hh : Cx cells h) (hg : Cx cells g) (s3 : Sup 3 cells h g lo) (s2 : Sup 2 cells h g ln) (H : Holds ws cells.length lo ln (offs ws lo lo.length + offs ws ln ln.length) h g) : Imp ws h g := by
  intro old now vo vn h1 h0
  have val : ∀ (V : List Int), Vl ws V → ∀ (l : List Int), (∀ x ∈ l, 0 ≤ x ∧ x < cells.length) → ∃ r, r < 2 ^ offs ws l l.length ∧ ∀ i, i < l.length → ((r / 2 ^ offs ws l i % 2 ^ ws.getD (l.getD i 0).toNat 0 : Nat) : Int) = V.getD (l.getD i 0).toNat 0 := by
    intro V hV l hl
    obtain ⟨r, hr, he⟩ := dig_all ws l (fun i => (V.getD (l.getD i 0).toNat 0).toNat) (fun i hi => by
      have hb := hl _ (getD_mem 0 hi)
      obtain ⟨v, hv, hlt⟩ := hV (l.getD i 0).toNat (by omega)
      rw [hv]; simpa using hlt) l.length (Nat.le_refl _)
    refine ⟨r, hr, fun i hi => ?_⟩
    rw [he i hi]
    have hb := hl _ (getD_mem 0 hi)
    obtain ⟨v, hv, hlt⟩ := hV (l.getD i 0).toNat (by omega)
    rw [hv]; simp
  obtain ⟨a, ha, ea⟩ := val old vo lo (s3.lt (.inr rfl) hh hg)
  obtain ⟨b, hb, eb⟩ := val now vn ln (s2.lt (.inl rfl) hh hg)
  obtain ⟨B, F, hG, hbad⟩ := H (a + b * 2 ^ offs ws lo lo.length) (by
    rw [Nat.pow_add, Nat.mul_comm (2 ^ offs ws lo lo.length)]
    have := Nat.mul_le_mul_right (2 ^ offs ws lo lo.length) hb
    rw [Nat.succ_mul] at this
    omega)
  obtain ⟨e1, e2⟩ := ev_agree hh hg s3 s2 (B := B) (F := F) (old := old) (now := now) (fun x hx => by
    obtain ⟨i, hi, rfl⟩ := mem_getD hx
    rw [hG.b.at_ i hi, ← ea i hi]
    obtain ⟨d, hd⟩ := offs_mono (ws := ws) (l := lo) (i := i + 1) (j := lo.length) (by omega) (Nat.le_refl _)
    rw [offs_succ hi] at hd
    rw [hd, dig_add]) (fun x hx => by
    obtain ⟨i, hi, rfl⟩ := mem_getD hx
    rw [hG.a.at_ i hi, ← eb i hi, Nat.add_mul_div_right _ _ (Nat.pow_pos (by decide)), Nat.div_eq_of_lt ha, Nat.zero_add])
  exact hbad ⟨e1.trans h1, e2.trans h0⟩
theorem not_imp_of_fails (hwl : ws.length = cells.length) (hh : Cx cells h) (hg : Cx cells g) (s3 : Sup 3 cells h g lo) (s2 : Sup 2 cells h g ln) (H : Fails ws cells.length lo ln (offs ws lo lo.length + offs ws ln ln.length) h g) : ¬ Imp ws h g := by
  obtain ⟨n, B, F, hn, hG, h1, h0⟩ := H
  intro hI
  have val : ∀ (l V : List Int) (r : Nat), PB ws cells.length l r l.length V → (∀ x ∈ l, 0 ≤ x ∧ x < cells.length) → ∃ V', Vl ws V' ∧ ∀ x ∈ l, V.getD x.toNat 0 = V'.getD x.toNat 0 := by
    intro l V r hP hl
    have hat : ∀ i, i < ws.length → ((List.range ws.length).map fun i : Nat => if (i : Int) ∈ l then V.getD i 0 else 0).getD i 0 = if (i : Int) ∈ l then V.getD i 0 else 0 := fun i hi => by
      rw [List.getD_eq_getElem?_getD, List.getElem?_map, List.getElem?_range hi]; rfl
    refine ⟨(List.range ws.length).map fun i : Nat => if (i : Int) ∈ l then V.getD i 0 else 0, fun i hi => ?_, fun x hx => ?_⟩
    · rw [hat i hi]
      split
      · rename_i hm
        obtain ⟨j, hj, he⟩ := mem_getD hm
        have := hP.at_ j hj
        rw [he, Int.toNat_natCast] at this
        exact ⟨_, this, Nat.mod_lt _ (Nat.pow_pos (by decide))⟩
      · exact ⟨0, rfl, Nat.pow_pos (by decide)⟩
    · have hb := hl x hx
      rw [hat x.toNat (by omega), if_pos (by rw [Int.toNat_of_nonneg hb.1]; exact hx)]
  obtain ⟨old, vo, eo⟩ := val lo B _ hG.b (s3.lt (.inr rfl) hh hg)
  obtain ⟨now, vn, en⟩ := val ln F _ hG.a (s2.lt (.inl rfl) hh hg)
  obtain ⟨e1, e2⟩ := ev_agree hh hg s3 s2 eo en
  exact hI old now vo vn (e1.symm.trans h1) (e2.symm.trans h0)
end
end Go.Proofs.YtmjlhbkgljcnoaaGreatDoor
end PartT29

section PartT30
/- Implications, decided. -/
set_option linter.unusedSimpArgs false
set_option linter.unusedVariables false
set_option maxRecDepth 100000
namespace Go.Proofs.YtmjlhbkgljcnoaaGreatDoor
open Go Go.Ab

set_option maxHeartbeats 4000000 in
open Classical in
theorem holds_ac (cells : List Cel) (ws : List Nat) (hws : cw cells = nL ws) (hk : cells.length ≤ 6) (hwl : ws.length = cells.length) (hW : Ws ws) (h6 : ws.sum ≤ 6) (h g : Ex) (hh : Cx cells h) (hg : Cx cells g) (σ : St) (G : Glob) (hG : G.g 0 = some masksD) (hp : ∀ a s, ¬ G.pan a s) (R : A → St → Prop) (hR : R (db (decide (Imp ws h g))) σ) :
    AC Tryz.prog G 11 [.d (celsD cells), .d h.d, .d g.d] σ R := by
  have dec : ∀ (σ : St) (R : A → St → Prop), (Imp ws h g → ∀ a b, R (.tup [di 1, a, b, di 0]) σ) → (¬ Imp ws h g → ∀ a b, R (.tup [di 2, a, b, di 0]) σ) → AC Tryz.prog G 48 [.d (celsD cells), .d (cndD h g)] σ R := fun σ R q1 q2 =>
    Decide_ac cells ws hws hk hwl hW h6 h g hh hg σ G hG hp R (fun lo ln s3 s2 H => q1 (imp_of_holds hwl hh hg s3 s2 H)) (fun lo ln s3 s2 H => q2 (not_imp_of_fails hwl hh hg s3 s2 H))
  rw [Ex.d_eq h, Ex.d_eq g]
  unfold cndD at dec
  refine ac_enter mixed Tryz.func11 rfl Tryz.ntmps11 (by simp only [go_sem]) fun hbd => ?_
  simp only [List.length_cons, List.length_nil, Nat.reduceAdd, Nat.reduceSub, List.replicate_succ, List.replicate_zero, List.cons_append, List.nil_append]
  simp only [celsD, go_sem, toDs, Tryz.results11]
  refine ac' (dec _ _ (fun hI a b => ?_) fun hI a b => ?_)
  · rw [decide_eq_true hI] at hR
    simp only [go_sem, Tryz.results11]
    exact ret_d hbd hR
  · rw [decide_eq_false hI] at hR
    simp only [go_sem, Tryz.results11]
    exact ret_d hbd hR
end Go.Proofs.YtmjlhbkgljcnoaaGreatDoor
end PartT30

section PartT31
/- Relations and sets of states, plainly. -/
set_option linter.unusedSimpArgs false
set_option linter.unusedVariables false
set_option maxRecDepth 100000
namespace Go.Proofs.YtmjlhbkgljcnoaaGreatDoor
open Go Go.Ab

theorem bitsW_mem {w z : Nat} : z ∈ bitsW w ↔ z < 64 ∧ w.testBit z = true := by
  unfold bitsW
  rw [List.mem_filter, List.mem_range]
theorem bitsW_pair (w : Nat) : (bitsW w).Pairwise (· < ·) := List.pairwise_lt_range.filter _
theorem pairsM_mem {M : List Nat} {j x z : Nat} : (x, z) ∈ pairsM M j ↔ x < j ∧ z < 64 ∧ mbit M x z = true := by
  unfold pairsM mbit
  rw [List.mem_flatMap]
  constructor
  · rintro ⟨a, ha, h⟩
    obtain ⟨b, hb, e⟩ := List.mem_map.1 h
    injection e with e1 e2
    subst e1 e2
    exact ⟨List.mem_range.1 ha, bitsW_mem.1 hb⟩
  · rintro ⟨h1, h2⟩
    exact ⟨x, List.mem_range.2 h1, List.mem_map.2 ⟨z, bitsW_mem.2 h2, rfl⟩⟩
theorem pairsM_pair (M : List Nat) : ∀ j, (pairsM M j).Pairwise lexLt
  | 0 => List.Pairwise.nil
  | j + 1 => by
    rw [pairsM_succ, List.pairwise_append]
    refine ⟨pairsM_pair M j, ?_, fun p hp q hq => ?_⟩
    · rw [List.pairwise_map]
      exact (bitsW_pair _).imp fun h => .inr ⟨rfl, h⟩
    · obtain ⟨b, hb, rfl⟩ := List.mem_map.1 hq
      obtain ⟨a, c⟩ := p
      exact .inl (pairsM_mem.1 hp).1
theorem pairsM_len (M : List Nat) : ∀ j, (pairsM M j).length ≤ 64 * j
  | 0 => by simp [pairsM]
  | j + 1 => by
    have := pairsM_len M j
    have := bitsW_len (M.getD j 0)
    rw [pairsM_succ, List.length_append, List.length_map]; omega
theorem pow6 {n : Nat} (h : n ≤ 6) : 2 ^ n ≤ 64 := Nat.pow_le_pow_right (n := 2) (j := 6) (by decide) h
theorem rs_of {ws : List Nat} (hW : Ws ws) (h6 : ws.sum ≤ 6) {M : List Nat} (h : ∀ x z, x < 64 → z < 64 → mbit M x z = true → x < 2 ^ ws.sum ∧ z < 2 ^ ws.sum) : Rs ws (pairsM M 64) :=
  ⟨hW, h6, fun p hp => by
    obtain ⟨x, z⟩ := p
    obtain ⟨h1, h2, h3⟩ := pairsM_mem.1 hp
    exact h x z h1 h2 h3, pairsM_pair M 64, by have := pairsM_len M 64; omega⟩
/-- The relation of pairs. -/
def inR (ps : List (Nat × Nat)) (x z : Nat) : Bool := decide ((x, z) ∈ ps)
theorem far_rows {N : Nat} {M : List Nat} (hn : N ≤ M.length) : ∀ k, (closeM N M k).length = M.length ∧ ∀ x z, N ≤ x → mbit (closeM N M k) x z = mbit M x z
  | 0 => ⟨rfl, fun _ _ _ => rfl⟩
  | k + 1 => by
    obtain ⟨h1, h2⟩ := far_rows hn k
    rw [closeM_succ]
    obtain ⟨g1, g2⟩ := stepY_upto (n := N) (y := k) (M := closeM N M k) (by omega) N (Nat.le_refl _)
    exact ⟨by rw [g1, h1], fun x z hx => by rw [g2, if_neg (by omega), h2 x z hx]⟩
theorem clo_lt {n : Nat} {r : Nat → Nat → Bool} (hr : ∀ x y, r x y = true → x < n ∧ y < n) {x y : Nat} (hx : x < n) (h : clo n r x y = true) : y < n :=
  clo_closed (S := fun z => z < n) (fun a b _ hab => (hr a b hab).2) hx h
theorem inR_lt {ws : List Nat} {ps : List (Nat × Nat)} (hr : Rs ws ps) (x y : Nat) (h : inR ps x y = true) : x < 2 ^ ws.sum ∧ y < 2 ^ ws.sum := hr.lt (x, y) (of_decide_eq_true h)
theorem closeB {ws : List Nat} {ps : List (Nat × Nat)} (hr : Rs ws ps) (x z : Nat) : mbit (closeM (2 ^ ws.sum) (idM (rowsM ps) (2 ^ ws.sum)) (2 ^ ws.sum)) x z = (decide (x < 2 ^ ws.sum) && clo (2 ^ ws.sum) (inR ps) x z) := by
  have hN := pow6 hr.sum
  have hw := rowsM_words hr
  have hi := idM_words hw (2 ^ ws.sum) hN
  have hl := hi.1
  have hb : ∀ x z, mbit (idM (rowsM ps) (2 ^ ws.sum)) x z = (inR ps x z || (decide (x < 2 ^ ws.sum) && x == z)) := fun x z => by
    rw [idM_bit hw _ hN, rowsM_bit hr]; rfl
  rcases Nat.lt_or_ge x (2 ^ ws.sum) with hx | hx
  · rw [(closeM_bit (m := refl (inR ps)) (by omega) (fun x z hx => by rw [hb, decide_eq_true hx, Bool.true_and]; rfl) _ (Nat.le_refl _)).2 x z hx, decide_eq_true hx, Bool.true_and]
    rfl
  · rw [(far_rows (by omega) _).2 x z hx, hb]
    have h1 : decide (x < 2 ^ ws.sum) = false := decide_eq_false (by omega)
    have h2 : inR ps x z = false := by
      cases e : inR ps x z
      · rfl
      · exact absurd (inR_lt hr x z e).1 (by omega)
    rw [h1, h2]; rfl
theorem closeR_rs {ws : List Nat} {ps : List (Nat × Nat)} (hr : Rs ws ps) : Rs ws (closeR ws ps) := rs_of hr.w hr.sum fun x z _ _ h => by
  rw [closeB hr, Bool.and_eq_true, decide_eq_true_eq] at h
  exact ⟨h.1, clo_lt (inR_lt hr) h.1 h.2⟩
theorem closeR_mem {ws : List Nat} {ps : List (Nat × Nat)} (hr : Rs ws ps) {x z : Nat} : (x, z) ∈ closeR ws ps ↔ x < 2 ^ ws.sum ∧ z < 2 ^ ws.sum ∧ clo (2 ^ ws.sum) (inR ps) x z = true := by
  have hN := pow6 hr.sum
  unfold closeR
  rw [pairsM_mem, closeB hr, Bool.and_eq_true, decide_eq_true_eq]
  constructor
  · rintro ⟨-, -, h1, h2⟩
    exact ⟨h1, clo_lt (inR_lt hr) h1 h2, h2⟩
  · rintro ⟨h1, h2, h3⟩
    exact ⟨by omega, by omega, h1, h3⟩
theorem insL_mem {ws : List Nat} {ps : List (Nat × Nat)} {l : List Nat} (hr : Rs ws ps) (hl : Ss ws l) {n : Nat} : n ∈ insL ps l ↔ n ∈ l ∧ ∀ z, (n, z) ∈ ps → z ∈ l := by
  have h64 := hl.lt64 hr.sum
  have hw := rowsM_words hr
  unfold insL insW
  rw [insF_eq, bitsW_mem, orF_bit, Nat.zero_testBit, Bool.false_or, List.contains_iff_mem, List.mem_filter, decide_eq_true_eq]
  have key : nand ((rowsM ps).getD n 0) (wordM l) = 0 ↔ ∀ z, (n, z) ∈ ps → z ∈ l := by
    have hbit : ∀ z, (nand ((rowsM ps).getD n 0) (wordM l)).testBit z = (inR ps n z && !l.contains z) := fun z => by
      rw [nand_bit (hw.at_ n)]
      have e1 := rowsM_bit hr n z
      unfold mbit at e1
      rw [e1]
      unfold wordM
      rw [orF_bit, Nat.zero_testBit, Bool.false_or]
      rfl
    constructor
    · intro h z hz
      have := hbit z
      rw [h, Nat.zero_testBit] at this
      have e2 : inR ps n z = true := decide_eq_true hz
      rw [e2, Bool.true_and] at this
      have : l.contains z = true := by simpa using this.symm
      exact List.contains_iff_mem.1 this
    · intro h
      refine Nat.eq_of_testBit_eq fun z => ?_
      rw [hbit, Nat.zero_testBit]
      cases e : inR ps n z
      · rfl
      · rw [List.contains_iff_mem.2 (h z (of_decide_eq_true e))]; rfl
  rw [key]
  exact ⟨fun h => h.2, fun h => ⟨h64 n h.1, h⟩⟩
theorem insL_ss {ws : List Nat} {ps : List (Nat × Nat)} {l : List Nat} (hr : Rs ws ps) (hl : Ss ws l) : Ss ws (insL ps l) := ⟨hl.w, bitsW_pair _, fun n hn => hl.lt n ((insL_mem hr hl).1 hn).1⟩
/-- The stable part of a set. -/
theorem part_mem' {ws : List Nat} {ps : List (Nat × Nat)} {l : List Nat} (hr : Rs ws ps) (hl : Ss ws l) {n : Nat} : n ∈ insL (closeR ws ps) l ↔ Part (2 ^ ws.sum) (inR ps) (fun x => x ∈ l) n := by
  rw [insL_mem (closeR_rs hr) hl]
  constructor
  · rintro ⟨h1, h2⟩
    exact ⟨h1, fun y hy hc => h2 y ((closeR_mem hr).2 ⟨hl.lt n h1, hy, hc⟩)⟩
  · rintro ⟨h1, h2⟩
    refine ⟨h1, fun z hz => ?_⟩
    obtain ⟨g1, g2, g3⟩ := (closeR_mem hr).1 hz
    exact h2 z g2 g3
theorem rm_rs {ws : List Nat} (hW : Ws ws) (h6 : ws.sum ≤ 6) {e : Ex} {M : List Nat} (h : RM ws e M) : Rs ws (pairsM M 64) := rs_of hW h6 fun x z _ _ hb => by
  rw [h.bit, Bool.and_eq_true, Bool.and_eq_true, decide_eq_true_eq, decide_eq_true_eq] at hb
  exact hb.1
theorem rm_in {ws : List Nat} (h6 : ws.sum ≤ 6) {e : Ex} {M : List Nat} (h : RM ws e M) {x z : Nat} (hx : x < 2 ^ ws.sum) (hz : z < 2 ^ ws.sum) : inR (pairsM M 64) x z = relB ws e x z := by
  have hN := pow6 h6
  unfold inR
  rw [Bool.eq_iff_iff, decide_eq_true_eq, pairsM_mem, h.bit, decide_eq_true hx, decide_eq_true hz]
  simp only [Bool.true_and]
  exact ⟨fun h => h.2.2, fun h => ⟨by omega, by omega, h⟩⟩
theorem sat_ss {ws : List Nat} (hW : Ws ws) (e : Ex) : Ss ws (satL ws e) := ⟨hW, List.pairwise_lt_range.filter _, fun n hn => List.mem_range.1 (List.mem_filter.1 hn).1⟩
theorem sat_mem {ws : List Nat} {e : Ex} {n : Nat} : n ∈ satL ws e ↔ n < 2 ^ ws.sum ∧ evN (stI ws n) (stI ws n) e = 1 := by
  unfold satL sat
  rw [List.mem_filter, List.mem_range, beq_iff_eq]
end Go.Proofs.YtmjlhbkgljcnoaaGreatDoor
end PartT31

section PartT32
/- States by number; a set's expression, Before, And, plainly. -/
set_option linter.unusedSimpArgs false
set_option linter.unusedVariables false
set_option maxRecDepth 100000
namespace Go.Proofs.YtmjlhbkgljcnoaaGreatDoor
open Go Go.Ab

theorem vals_at : ∀ (ws : List Nat) (n i : Nat), i < ws.length → (vals ws n).getD i 0 < 2 ^ ws.getD i 0
  | [], n, i, h => absurd h (by simp)
  | w :: ws, n, 0, h => by
    rw [vals, List.getD_cons_zero, List.getD_cons_zero]
    exact Nat.mod_lt _ (Nat.pow_pos (by decide))
  | w :: ws, n, i + 1, h => by
    rw [vals, List.getD_cons_succ, List.getD_cons_succ]
    exact vals_at ws _ i (by simpa using h)
theorem vals_all : ∀ (ws : List Nat) (f : Nat → Nat), (∀ i, i < ws.length → f i < 2 ^ ws.getD i 0) → ∃ n, n < 2 ^ ws.sum ∧ ∀ i, i < ws.length → (vals ws n).getD i 0 = f i
  | [], f, h => ⟨0, by simp, fun i hi => absurd hi (by simp)⟩
  | w :: ws, f, h => by
    obtain ⟨n, hn, he⟩ := vals_all ws (fun i => f (i + 1)) fun i hi => by have := h (i + 1) (by simpa using hi); simpa using this
    have h0 : f 0 < 2 ^ w := by have := h 0 (by simp); simpa using this
    have hp : 0 < 2 ^ w := Nat.pow_pos (by decide)
    refine ⟨f 0 + 2 ^ w * n, ?_, fun i hi => ?_⟩
    · rw [List.sum_cons, Nat.pow_add]
      have := Nat.mul_le_mul_left (2 ^ w) hn
      rw [Nat.mul_succ] at this
      omega
    · have e1 : (f 0 + 2 ^ w * n) % 2 ^ w = f 0 := by rw [Nat.add_mul_mod_self_left, Nat.mod_eq_of_lt h0]
      have e2 : (f 0 + 2 ^ w * n) / 2 ^ w = n := by rw [Nat.add_mul_div_left _ _ hp, Nat.div_eq_of_lt h0, Nat.zero_add]
      rw [vals, e1, e2]
      cases i with
      | zero => rfl
      | succ i => rw [List.getD_cons_succ]; exact he i (by simpa using hi)
theorem stI_at {ws : List Nat} {n i : Nat} (h : i < ws.length) : (stI ws n).getD i 0 = ((vals ws n).getD i 0 : Nat) := by
  unfold stI nL
  have hl := vals_len ws n
  rw [List.getD_eq_getElem?_getD, List.getElem?_append_left (by rw [List.length_map]; omega), List.getElem?_map, List.getElem?_eq_getElem (by omega), List.getD_eq_getElem?_getD, List.getElem?_eq_getElem (by omega)]
  rfl
theorem stI_vl (ws : List Nat) (n : Nat) : Vl ws (stI ws n) := fun i hi => ⟨_, stI_at hi, vals_at ws n i hi⟩
theorem vl_num {ws : List Nat} {V : List Int} (h : Vl ws V) : ∃ n, n < 2 ^ ws.sum ∧ ∀ i, i < ws.length → V.getD i 0 = (stI ws n).getD i 0 := by
  obtain ⟨n, hn, he⟩ := vals_all ws (fun i => (V.getD i 0).toNat) fun i hi => by
    obtain ⟨v, hv, hlt⟩ := h i hi
    rw [hv]; simpa using hlt
  refine ⟨n, hn, fun i hi => ?_⟩
  obtain ⟨v, hv, hlt⟩ := h i hi
  rw [stI_at hi, he i hi, hv]; simp
theorem ev_near {cells : List Cel} {ws : List Nat} (hwl : ws.length = cells.length) {e : Ex} (h : Cx cells e) {old old' now now' : List Int} (ho : ∀ i, i < ws.length → old.getD i 0 = old'.getD i 0) (hn : ∀ i, i < ws.length → now.getD i 0 = now'.getD i 0) : evN old now e = evN old' now' e :=
  ev_occ e (fun n hm => by
    have := h.supp (.inl rfl) n (occ_sup (.inl rfl) h.deep hm)
    exact hn _ (by omega)) fun n hm => by
    have := h.supp (.inr rfl) n (occ_sup (.inr rfl) h.deep hm)
    exact ho _ (by omega)
theorem imp_num {cells : List Cel} {ws : List Nat} (hwl : ws.length = cells.length) {h g : Ex} (hh : Cx cells h) (hg : Cx cells g) : Imp ws h g ↔ ∀ x y, x < 2 ^ ws.sum → y < 2 ^ ws.sum → evN (stI ws x) (stI ws y) h = 1 → evN (stI ws x) (stI ws y) g ≠ 0 := by
  constructor
  · intro H x y _ _
    exact H _ _ (stI_vl ws x) (stI_vl ws y)
  · intro H old now vo vn h1
    obtain ⟨x, hx, ex⟩ := vl_num vo
    obtain ⟨y, hy, ey⟩ := vl_num vn
    rw [ev_near hwl hh ex ey] at h1
    rw [ev_near hwl hg ex ey]
    exact H x y hx hy h1
/-- The cells of widths ws. -/
structure Cw (cells : List Cel) (ws : List Nat) : Prop where
  cw : cw cells = nL ws
  len : ws.length = cells.length
  w : Ws ws
  sum : ws.sum ≤ 6
theorem Cw.at_ {cells : List Cel} {ws : List Nat} (h : Cw cells ws) {i : Nat} (hi : i < ws.length) : (cells.getD i cel0).w = ((ws.getD i 0 : Nat) : Int) := by
  have hl := h.len
  have e1 : (Go.Proofs.YtmjlhbkgljcnoaaGreatDoor.cw cells).getD i 0 = (cells.getD i cel0).w := by
    unfold Go.Proofs.YtmjlhbkgljcnoaaGreatDoor.cw
    rw [List.getD_eq_getElem?_getD, List.getElem?_map, List.getElem?_eq_getElem (by omega), List.getD_eq_getElem?_getD, List.getElem?_eq_getElem (by omega)]; rfl
  rw [← e1, h.cw]
  unfold nL
  rw [List.getD_eq_getElem?_getD, List.getElem?_map, List.getElem?_eq_getElem hi, List.getD_eq_getElem?_getD, List.getElem?_eq_getElem hi]; rfl
theorem ok_mk {o w n : Int} {k : List Ex} (h : k.length ≤ 3) (hk : ∀ e ∈ k, e.Ok) : (Ex.mk o w n k).Ok := .mk (by simp only [Ex.kids, reachBytes]; omega) hk
theorem dt_ok : ∀ t : Dt, t.ex.Ok
  | .leaf b => ok_mk (by simp) fun e he => absurd he (by simp)
  | .node c w last l r => by
    refine ok_mk (by simp) fun e he => ?_
    simp only [List.mem_cons, List.not_mem_nil, or_false] at he
    rcases he with rfl | rfl | rfl
    · refine ok_mk (by simp) fun e he => ?_
      simp only [List.mem_cons, List.not_mem_nil, or_false] at he
      rcases he with rfl | rfl <;> exact ok_mk (by simp) fun e he => absurd he (by simp)
    · exact dt_ok l
    · exact dt_ok r
theorem dt_over {cells : List Cel} {cs : List (Nat × Nat)} (hc : ∀ c w, (c, w) ∈ cs → c < cells.length ∧ (cells.getD c cel0).w = (w : Int)) (p : Bool) : ∀ t : Dt, t.Ok cs → t.ex.over cells p = true
  | .leaf b, _ => by simp [Dt.ex, Ex.over, overL, Ex.overN, Ex.op]
  | .node c w last l r, ⟨h1, h2, h3, h4⟩ => by
    obtain ⟨k1, k2⟩ := hc c w h1
    have hl := dt_over hc p l h3
    have hr := dt_over hc p r h4
    simp only [Dt.ex, Ex.over, overL, hl, hr, Bool.and_true]
    simp only [Ex.overN, Ex.op, Ex.n, Ex.w, Int.toNat_natCast, k2]
    simp; omega
theorem xS_cx {cells : List Cel} {ws : List Nat} (h : Cw cells ws) (l : List Nat) : Cx cells (xS ws l) ∧ (xS ws l).over cells false = true := by
  have hk := mem_ok (csR ws) (csR ws) l fun x hx => hx
  have hc : ∀ c w, (c, w) ∈ csR ws → c < ws.length ∧ ws.getD c 0 = w := fun c w hm => csR_lt (c, w) hm
  have hlen := h.w.len
  have hov := fun p => dt_over (cells := cells) (fun c w hm => by
    obtain ⟨q1, q2⟩ := hc c w hm
    exact ⟨by rw [← h.len]; exact q1, by rw [h.at_ q1, q2]⟩) p (mem (csR ws) l) hk
  have hn := xS_nodes h.sum l
  refine ⟨⟨dt_ok _, by omega, ?_, hov true, ?_⟩, hov false⟩
  · refine ex_deep (fun c w hm => ?_) (mem (csR ws) l) 40 hk ?_
    · obtain ⟨q1, q2⟩ := hc c w hm
      have := h.w.ok w (by rw [← q2]; exact getD_mem 0 q1)
      exact ⟨by omega, this⟩
    · have := mem_dep (csR ws) l
      rw [bits_csR] at this
      have := h.sum
      omega
  · unfold xS
    cases mem (csR ws) l <;> rfl
theorem xS_ev {ws l : List Nat} (hS : Ss ws l) {old : List Int} {y : Nat} (hy : y < 2 ^ ws.sum) : evN old (stI ws y) (xS ws l) = b2n (decide (y ∈ l)) := by
  unfold xS
  rw [← member_ev hS.pair hS.lt hy]
  refine dt_ev (cs := csR ws) (fun c w hm => ?_) (mem_ok _ _ l fun x hx => hx)
  obtain ⟨q1, q2⟩ := csR_lt (c, w) hm
  simp only at q1 q2
  refine ⟨stI_at q1, ?_⟩
  have := vals_at ws y c q1
  rw [q2] at this
  exact this
theorem xS_op (ws l : List Nat) : (xS ws l).op ≠ 0 := by
  unfold xS
  cases mem (csR ws) l
  · show (1 : Int) ≠ 0; decide
  · show (14 : Int) ≠ 0; decide
end Go.Proofs.YtmjlhbkgljcnoaaGreatDoor
end PartT32

section PartT33
/- Before and And, plainly. -/
set_option linter.unusedSimpArgs false
set_option linter.unusedVariables false
set_option maxRecDepth 100000
namespace Go.Proofs.YtmjlhbkgljcnoaaGreatDoor
open Go Go.Ab

theorem le_sumN {x : Nat} : ∀ {l : List Nat}, x ∈ l → x ≤ l.sum
  | a :: r, h => by
    rw [List.sum_cons]
    rcases List.mem_cons.1 h with rfl | h
    · omega
    · have := le_sumN h; omega
theorem befL_map : ∀ k : List Ex, befL k = k.map bef
  | [] => rfl
  | e :: r => by rw [befL, befL_map r]; rfl
theorem bef_eq (e : Ex) : bef e = .mk (if e.op = 2 then 3 else e.op) e.w e.n (e.kids.map bef) := by
  cases e
  rw [bef, befL_map]; rfl
theorem bef_w (e : Ex) : (bef e).w = e.w := by rw [bef_eq]; rfl
theorem bef_ok {e : Ex} (h : e.Ok) : (bef e).Ok := by
  induction h with
  | mk h hk ih =>
    rw [bef_eq]
    refine .mk (by simpa [Ex.kids] using h) fun k hm => ?_
    obtain ⟨x, hx, rfl⟩ := List.mem_map.1 (show k ∈ _ from hm)
    exact ih x hx
theorem bef_fits (e : Ex) : (bef e).fits = e.fits := by
  have hkw : ∀ i, (bef e).kw i = e.kw i := fun i => by
    obtain ⟨o, w, n, k⟩ := e
    rw [bef_eq]
    show ((k.map bef).getD i (.mk 0 0 0 [])).w = (k.getD i (.mk 0 0 0 [])).w
    rw [List.getD_eq_getElem?_getD, List.getElem?_map, List.getD_eq_getElem?_getD]
    cases k[i]? with
    | none => rfl
    | some x => exact bef_w x
  have hop : (bef e).op = if e.op = 2 then 3 else e.op := by rw [bef_eq]; rfl
  have hkl : (bef e).kids.length = e.kids.length := by rw [bef_eq]; simp [Ex.kids]
  have hn : (bef e).n = e.n := by rw [bef_eq]; rfl
  unfold Ex.fits
  rw [hkl, bef_w, hn, hkw, hkw, hkw, hop]
  by_cases h : e.op = 2
  · simp only [h, if_true]
    simp [Ex.arity]
  · simp only [if_neg h]
theorem bef_deep : ∀ (l : Nat) (e : Ex), (bef e).deep l = e.deep l
  | 0, e => by simp [Ex.deep]
  | l + 1, e => by
    rw [deep_eq, deep_eq, bef_fits]
    congr 1
    rw [bef_eq]
    simp only [Ex.kids]
    rw [List.all_map]
    exact congrArg (fun f => e.kids.all f) (funext fun k => bef_deep l k)
theorem bef_nodes : ∀ (n : Nat) (e : Ex), e.nodes ≤ n → (bef e).nodes = e.nodes
  | 0, e, h => by rw [Ex.nodes_eq] at h; omega
  | n + 1, e, h => by
    have h' := h
    rw [Ex.nodes_eq] at h'
    rw [Ex.nodes_eq, Ex.nodes_eq e, bef_eq]
    simp only [Ex.kids, List.map_map]
    congr 2
    refine List.map_congr_left fun k hk => bef_nodes n k ?_
    have : k.nodes ≤ (e.kids.map Ex.nodes).sum := le_sumN (List.mem_map.2 ⟨k, hk, rfl⟩)
    show k.nodes ≤ n
    omega
theorem bef_over {cells : List Cel} : ∀ (n : Nat) (e : Ex), e.nodes ≤ n → e.over cells false = true → (bef e).over cells true = true ∧ occ 3 e = []
  | 0, e, h, _ => by rw [Ex.nodes_eq] at h; omega
  | n + 1, e, h, ho => by
    rw [Ex.nodes_eq] at h
    rw [Ex.over_eq, Bool.and_eq_true, List.all_eq_true] at ho
    obtain ⟨h1, h2⟩ := ho
    have ih : ∀ k ∈ e.kids, (bef k).over cells true = true ∧ occ 3 k = [] := fun k hk => bef_over n k (by
      have : k.nodes ≤ (e.kids.map Ex.nodes).sum := le_sumN (List.mem_map.2 ⟨k, hk, rfl⟩)
      omega) (h2 k hk)
    have h3 : e.op ≠ 3 := fun q => by simp [Ex.overN, q] at h1
    refine ⟨?_, ?_⟩
    · rw [Ex.over_eq, Bool.and_eq_true, List.all_eq_true]
      refine ⟨?_, fun k hk => ?_⟩
      · obtain ⟨p, w, c, k⟩ := e
        rw [bef_eq]
        simp only [Ex.overN, Ex.op, Ex.w, Ex.n] at h1 h3 ⊢
        by_cases h4 : p = 2
        · subst h4; exact h1
        · simp [h4, h3]
      · rw [bef_eq] at hk
        obtain ⟨x, hx, rfl⟩ := List.mem_map.1 (show k ∈ _ from hk)
        exact (ih x hx).1
    · obtain ⟨p, w, c, k⟩ := e
      have h3' : p ≠ 3 := h3
      rw [occ, if_neg h3', List.nil_append]
      have : ∀ k : List Ex, (∀ x ∈ k, occ 3 x = []) → occL 3 k = [] := by
        intro k
        induction k with
        | nil => intro _; rfl
        | cons a r ih => intro h; rw [occL, h a (by simp), ih fun x hx => h x (List.mem_cons_of_mem _ hx)]; rfl
      exact this k fun x hx => (ih x hx).2
theorem bef_cx {cells : List Cel} {e : Ex} (h : Cx cells e) (ho : e.over cells false = true) : Cx cells (bef e) :=
  ⟨bef_ok h.ok, by rw [bef_nodes _ e (Nat.le_refl _)]; exact h.nodes, by rw [bef_deep]; exact h.deep, (bef_over _ e (Nat.le_refl _) ho).1, by rw [bef_w]; exact h.w⟩
theorem bef_ev {cells : List Cel} {e : Ex} (ho : e.over cells false = true) (old now old' : List Int) : evN old now (bef e) = evN old' old e := by
  have h3 := (bef_over _ e (Nat.le_refl _) ho).2
  rw [ev_bef e h3]
  exact ev_occ e (fun _ _ => rfl) fun n hn => by rw [h3] at hn; cases hn
theorem one_ev {cells : List Cel} {e : Ex} (ho : e.over cells false = true) (old old' now : List Int) : evN old now e = evN old' now e :=
  ev_occ e (fun _ _ => rfl) fun n hn => by rw [(bef_over _ e (Nat.le_refl _) ho).2] at hn; cases hn
theorem deep_n : ∀ (n L : Nat) (e : Ex), e.deep L = true → e.nodes ≤ n → e.deep n = true
  | 0, L, e, _, h => by rw [Ex.nodes_eq] at h; omega
  | n + 1, 0, e, hd, _ => by simp [Ex.deep] at hd
  | n + 1, L + 1, e, hd, h => by
    rw [Ex.nodes_eq] at h
    have hd' := hd
    rw [deep_eq, Bool.and_eq_true] at hd'
    rw [deep_eq, Bool.and_eq_true, List.all_eq_true]
    refine ⟨hd'.1, fun k hk => deep_n n L k (deep_kid hd hk) ?_⟩
    have : k.nodes ≤ (e.kids.map Ex.nodes).sum := le_sumN (List.mem_map.2 ⟨k, hk, rfl⟩)
    omega
theorem cx_lt {cells : List Cel} {e : Ex} (h : Cx cells e) (old now : List Int) : evN old now e < 2 := by
  have := evN_lt (old := old) (now := now) 40 e h.deep
  rw [h.w] at this
  exact this
theorem isC_ev {e : Ex} {n : Int} (h : e.isC n = true) (old now : List Int) : evN old now e = n.toNat := by
  unfold Ex.isC at h
  rw [Bool.and_eq_true, beq_iff_eq, beq_iff_eq] at h
  rw [evN_eq, h.1, h.2]; rfl
end Go.Proofs.YtmjlhbkgljcnoaaGreatDoor
end PartT33

section PartT34
/- And of two, plainly. -/
set_option linter.unusedSimpArgs false
set_option linter.unusedVariables false
set_option maxRecDepth 100000
namespace Go.Proofs.YtmjlhbkgljcnoaaGreatDoor
open Go Go.Ab

theorem leaf_cx (cells : List Cel) (b : Bool) : Cx cells (.mk 1 1 (b2n b : Nat) []) :=
  ⟨ok_mk (by simp) fun e he => absurd he (by simp), by rw [Ex.nodes_eq]; simp [Ex.kids], by cases b <;> simp [Ex.deep, Ex.fits, Ex.arity, Ex.op, Ex.w, Ex.n, Ex.kids, b2n], by simp [Ex.over, overL, Ex.overN, Ex.op], rfl⟩
theorem and_cx {cells : List Cel} {p q : Ex} (hp : Cx cells p) (hq : Cx cells q) (dp : p.deep 39 = true) (dq : q.deep 39 = true) (hn : p.nodes + q.nodes + 1 ≤ 600) : Cx cells (.mk 5 1 0 [p, q]) := by
  refine ⟨ok_mk (by simp) fun e he => ?_, ?_, ?_, ?_, rfl⟩
  · simp only [List.mem_cons, List.not_mem_nil, or_false] at he
    rcases he with rfl | rfl
    · exact hp.ok
    · exact hq.ok
  · rw [Ex.nodes_eq]; simp [Ex.kids]; omega
  · rw [deep_eq, Bool.and_eq_true]
    have w1 := hp.w
    have w2 := hq.w
    refine ⟨?_, ?_⟩
    · obtain ⟨o1, x1, n1, k1⟩ := p
      obtain ⟨o2, x2, n2, k2⟩ := q
      simp only [Ex.w] at w1 w2
      subst w1; subst w2
      simp [Ex.fits, Ex.arity, Ex.op, Ex.w, Ex.n, Ex.kids, Ex.kw]
    · simp [Ex.kids, dp, dq]
  · have o1 := hp.over
    have o2 := hq.over
    simp only [Ex.over, overL, o1, o2, Bool.and_true]
    simp [Ex.overN, Ex.op]
/-- Two expressions that And joins. -/
structure Two (cells : List Cel) (p q : Ex) : Prop where
  cp : Cx cells p
  cq : Cx cells q
  dp : p.deep 39 = true
  dq : q.deep 39 = true
  n : p.nodes + q.nodes + 1 ≤ 600
theorem kept2 (p q : Ex) : kept [p, q] = (if !p.isC 0 && !p.isC 1 then [p] else []) ++ if !q.isC 0 && !q.isC 1 then [q] else [] := by
  unfold kept
  rw [List.filter_cons, List.filter_cons, List.filter_nil]
  cases (!p.isC 0 && !p.isC 1) <;> cases (!q.isC 0 && !q.isC 1) <;> rfl
theorem fold_cx {cells : List Cel} {p q : Ex} (h : Two cells p q) : (kept [p, q] ≠ [] → Cx cells (foldE 5 (kept [p, q]))) ∧ (foldE 5 (kept [p, q])).Ok ∧ (foldE 5 (kept [p, q])).nodes ≤ 600 := by
  have h0 : kept [p, q] ≠ [] → Cx cells (foldE 5 (kept [p, q])) := by
    rw [kept2]
    intro hne
    cases h1 : (!p.isC 0 && !p.isC 1) <;> cases h2 : (!q.isC 0 && !q.isC 1) <;> rw [h1, h2] at hne
    · exact absurd rfl hne
    · exact h.cq
    · exact h.cp
    · exact and_cx h.cp h.cq h.dp h.dq h.n
  refine ⟨h0, ?_⟩
  by_cases e : kept [p, q] = []
  · rw [e]
    exact ⟨ok_mk (by simp) fun e he => absurd he (by simp), by show (Ex.mk 0 0 0 []).nodes ≤ 600; rw [Ex.nodes_eq]; simp [Ex.kids]⟩
  · exact ⟨(h0 e).ok, (h0 e).nodes⟩
theorem and2_cx {cells : List Cel} {p q : Ex} (h : Two cells p q) : Cx cells (andL [p, q]) := by
  unfold andL
  split
  · exact leaf_cx cells false
  · split
    · exact leaf_cx cells true
    · rename_i e; exact (fold_cx h).1 e
theorem and2_ev {cells : List Cel} {p q : Ex} (h : Two cells p q) (old now : List Int) : evN old now (andL [p, q]) = 1 ↔ evN old now p = 1 ∧ evN old now q = 1 := by
  have l1 := cx_lt h.cp old now
  have l2 := cx_lt h.cq old now
  have z : ∀ e : Ex, e.isC 0 = true → evN old now e = 0 := fun e he => isC_ev he old now
  have o : ∀ e : Ex, e.isC 1 = true → evN old now e = 1 := fun e he => isC_ev he old now
  unfold andL
  split
  · rename_i hd
    have e0 : evN old now (.mk 1 1 0 []) = 0 := rfl
    rw [e0]
    unfold dec0 at hd
    simp only [List.any_cons, List.any_nil, Bool.or_false, Bool.or_eq_true] at hd
    rcases hd with hd | hd
    · rw [z p hd]; simp
    · rw [z q hd]; simp
  · rename_i hd
    unfold dec0 at hd
    simp only [List.any_cons, List.any_nil, Bool.or_false, Bool.or_eq_true, not_or, Bool.not_eq_true] at hd
    rw [kept2, hd.1, hd.2]
    simp only [Bool.not_false, Bool.true_and]
    cases h1 : p.isC 1 <;> cases h2 : q.isC 1
    · simp only [Bool.not_false, if_true, List.cons_append, List.nil_append]
      rw [if_neg (by simp)]
      show evN old now (.mk 5 1 0 [p, q]) = 1 ↔ _
      have e5 : evN old now (.mk 5 1 0 [p, q]) = evN old now p &&& evN old now q := rfl
      rw [e5]
      have c1 : evN old now p = 0 ∨ evN old now p = 1 := by omega
      have c2 : evN old now q = 0 ∨ evN old now q = 1 := by omega
      rcases c1 with c1 | c1 <;> rcases c2 with c2 | c2 <;> rw [c1, c2] <;> simp
    · rw [o q h2]; simp [foldE]
    · rw [o p h1]; simp [foldE]
    · rw [o p h1, o q h2]; simp [evN, evNL, opN]
theorem and2_ac {cells : List Cel} {p q : Ex} (h : Two cells p q) (σ : St) (G : Glob) (hG : G.g 0 = some masksD) (R : A → St → Prop) (hR : R (.d (andL [p, q]).d) σ) : AC Tryz.prog G 12 [.d (.sl 4 [p.d, q.d])] σ R :=
  And_ac [p, q] (by simp) (fun e he => by
    simp only [List.mem_cons, List.not_mem_nil, or_false] at he
    rcases he with rfl | rfl
    · exact ⟨h.cp.ok, h.cp.nodes, h.cp.w, h.cp.deep⟩
    · exact ⟨h.cq.ok, h.cq.nodes, h.cq.w, h.cq.deep⟩) (fold_cx h).2 (fun hne => ((fold_cx h).1 hne).deep) σ G hG R hR
end Go.Proofs.YtmjlhbkgljcnoaaGreatDoor
end PartT34

section PartT35
/- The law, plainly. -/
set_option linter.unusedSimpArgs false
set_option linter.unusedVariables false
set_option maxRecDepth 100000
namespace Go.Proofs.YtmjlhbkgljcnoaaGreatDoor
open Go Go.Ab

theorem sorted_ext : ∀ {a b : List Nat}, a.Pairwise (· < ·) → b.Pairwise (· < ·) → (∀ x, x ∈ a ↔ x ∈ b) → a = b
  | [], [], _, _, _ => rfl
  | [], y :: b, _, _, h => absurd ((h y).2 (by simp)) (by simp)
  | x :: a, [], _, _, h => absurd ((h x).1 (by simp)) (by simp)
  | x :: a, y :: b, ha, hb, h => by
    rw [List.pairwise_cons] at ha hb
    have e : x = y := by
      have h1 := (h x).1 (by simp)
      have h2 := (h y).2 (by simp)
      rcases List.mem_cons.1 h1 with e | h1
      · exact e
      · rcases List.mem_cons.1 h2 with e | h2
        · exact e.symm
        · have := ha.1 y h2
          have := hb.1 x h1
          omega
    subst e
    rw [sorted_ext ha.2 hb.2 fun z => ?_]
    constructor
    · intro hz
      rcases List.mem_cons.1 ((h z).1 (List.mem_cons_of_mem _ hz)) with e | h1
      · have := ha.1 z hz; omega
      · exact h1
    · intro hz
      rcases List.mem_cons.1 ((h z).2 (List.mem_cons_of_mem _ hz)) with e | h1
      · have := hb.1 z hz; omega
      · exact h1
/-- What the law speaks of. -/
structure Lw (cells : List Cel) (ws : List Nat) (a r : Ex) (M : List Nat) : Prop where
  w : Cw cells ws
  ca : Cx cells a
  ao : a.over cells false = true
  an : a.nodes ≤ 30
  cr : Cx cells r
  rn : r.nodes ≤ 30
  m : RM ws r M
def partL (ws : List Nat) (a : Ex) (M : List Nat) : List Nat := insL (closeR ws (pairsM M 64)) (satL ws a)
section
variable {cells : List Cel} {ws : List Nat} {a r : Ex} {M : List Nat}
theorem Lw.rs (h : Lw cells ws a r M) : Rs ws (pairsM M 64) := rm_rs h.w.w h.w.sum h.m
theorem Lw.ss (h : Lw cells ws a r M) : Ss ws (partL ws a M) := insL_ss (closeR_rs h.rs) (sat_ss h.w.w a)
theorem Lw.part (h : Lw cells ws a r M) {n : Nat} : n ∈ partL ws a M ↔ Part (2 ^ ws.sum) (inR (pairsM M 64)) (fun x => x ∈ satL ws a) n := part_mem' h.rs (sat_ss h.w.w a)
theorem Lw.twoB (h : Lw cells ws a r M) {e : Ex} (he : Cx cells e) (ho : e.over cells false = true) (hn : e.nodes ≤ 30) : Two cells (bef e) r :=
  ⟨bef_cx he ho, h.cr, by rw [bef_deep]; exact deep_n 39 40 e he.deep (by omega), deep_n 39 40 r h.cr.deep (by have := h.rn; omega), by rw [bef_nodes _ e (Nat.le_refl _)]; have := h.rn; omega⟩
theorem xS_deep {cells : List Cel} {ws : List Nat} (h : Cw cells ws) (l : List Nat) : (xS ws l).deep 39 = true := by
  have hlen := h.w.len
  refine ex_deep (fun c w hm => ?_) (mem (csR ws) l) 39 (mem_ok (csR ws) (csR ws) l fun x hx => hx) ?_
  · obtain ⟨q1, q2⟩ := csR_lt (c, w) hm
    simp only at q1 q2
    have := h.w.ok w (by rw [← q2]; exact getD_mem 0 q1)
    exact ⟨by omega, this⟩
  · have := mem_dep (csR ws) l
    rw [bits_csR] at this
    have := h.sum
    omega
theorem Lw.twoX (h : Lw cells ws a r M) (l : List Nat) : Two cells (bef (xS ws l)) r :=
  ⟨bef_cx (xS_cx h.w l).1 (xS_cx h.w l).2, h.cr, by rw [bef_deep]; exact xS_deep h.w l, deep_n 39 40 r h.cr.deep (by have := h.rn; omega), by
    rw [bef_nodes _ _ (Nat.le_refl _)]; have := h.rn; have := xS_nodes h.w.sum l; omega⟩
theorem x_one {l : List Nat} (hS : Ss ws l) {old : List Int} {y : Nat} (hy : y < 2 ^ ws.sum) : evN old (stI ws y) (xS ws l) = 1 ↔ y ∈ l := by
  rw [xS_ev hS hy]
  by_cases h : y ∈ l
  · rw [decide_eq_true h]; simp [h, b2n]
  · rw [decide_eq_false h]; simp [h, b2n]
theorem x_zero {l : List Nat} (hS : Ss ws l) {old : List Int} {y : Nat} (hy : y < 2 ^ ws.sum) : evN old (stI ws y) (xS ws l) ≠ 0 ↔ y ∈ l := by
  rw [xS_ev hS hy]
  by_cases h : y ∈ l
  · rw [decide_eq_true h]; simp [h, b2n]
  · rw [decide_eq_false h]; simp [h, b2n]
theorem e_one {e : Ex} (he : Cx cells e) (ho : e.over cells false = true) {old : List Int} {y : Nat} (hy : y < 2 ^ ws.sum) : evN old (stI ws y) e = 1 ↔ y ∈ satL ws e := by
  rw [sat_mem, one_ev ho old (stI ws y)]
  exact ⟨fun h => ⟨hy, h⟩, fun h => h.2⟩
theorem ne_zero {e : Ex} (he : Cx cells e) {old now : List Int} : evN old now e ≠ 0 ↔ evN old now e = 1 := by
  have := cx_lt he old now
  omega
/-- An expression over the state alone is stable iff its set is. -/
theorem Lw.stab (h : Lw cells ws a r M) {e : Ex} (he : Cx cells e) (ho : e.over cells false = true) (h2 : Two cells (bef e) r) {S : Nat → Prop} (hS : ∀ old y, y < 2 ^ ws.sum → (evN old (stI ws y) e = 1 ↔ S y)) :
    Imp ws (andL [bef e, r]) e ↔ Stable (2 ^ ws.sum) (inR (pairsM M 64)) S := by
  rw [imp_num h.w.len (and2_cx h2) he]
  constructor
  · intro H x y hx hy hs hxy
    have hr : evN (stI ws x) (stI ws y) r = 1 := by
      rw [rm_in h.w.sum h.m hx hy] at hxy
      simpa [relB] using hxy
    have h1 := H x y hx hy ((and2_ev h2 _ _).2 ⟨by rw [bef_ev ho _ _ (stI ws x)]; exact (hS _ x hx).2 hs, hr⟩)
    exact (hS _ y hy).1 ((ne_zero he).1 h1)
  · intro H x y hx hy h1
    obtain ⟨g1, g2⟩ := (and2_ev h2 _ _).1 h1
    rw [bef_ev ho _ _ (stI ws x)] at g1
    refine (ne_zero he).2 ((hS _ y hy).2 (H x y hx hy ((hS _ x hx).1 g1) ?_))
    rw [rm_in h.w.sum h.m hx hy]
    simpa [relB] using g2
theorem Lw.in_lt (h : Lw cells ws a r M) : ∀ x y, inR (pairsM M 64) x y = true → x < 2 ^ ws.sum ∧ y < 2 ^ ws.sum := inR_lt h.rs
/-- The part implies the assertion. -/
theorem Lw.l1 (h : Lw cells ws a r M) : Imp ws (xS ws (partL ws a M)) a := by
  rw [imp_num h.w.len (xS_cx h.w _).1 h.ca]
  intro x y hx hy h1
  refine (ne_zero h.ca).2 ((e_one h.ca h.ao hy).2 ?_)
  exact (h.part.1 ((x_one h.ss hy).1 h1)).1
/-- The part is stable. -/
theorem Lw.l2 (h : Lw cells ws a r M) : Imp ws (andL [bef (xS ws (partL ws a M)), r]) (xS ws (partL ws a M)) := by
  rw [h.stab (xS_cx h.w _).1 (xS_cx h.w _).2 (h.twoX _) (S := fun y => y ∈ partL ws a M) fun old y hy => x_one h.ss hy]
  intro x y hx hy hs hr
  exact h.part.2 (part_stable x y hx hy (h.part.1 hs) hr)
/-- The assertion is stable iff the part is the whole set. -/
theorem Lw.l3 (h : Lw cells ws a r M) : Imp ws (andL [bef a, r]) a ↔ satL ws a = partL ws a M := by
  rw [h.stab h.ca h.ao (h.twoB h.ca h.ao h.an) (S := fun y => y ∈ satL ws a) fun old y hy => e_one h.ca h.ao hy, part_all h.in_lt]
  constructor
  · intro H
    refine sorted_ext (sat_ss h.w.w a).pair h.ss.pair fun x => ⟨fun hx => h.part.2 (H x ((sat_ss h.w.w a).lt x hx) hx), fun hx => (h.part.1 hx).1⟩
  · intro H x hx hs
    rw [H] at hs
    exact h.part.1 hs
/-- What is stable and implies the assertion implies the part. -/
theorem Lw.l4 (h : Lw cells ws a r M) {o : Ex} (ho : Cx cells o) (hoo : o.over cells false = true) (hn : o.nodes ≤ 30) (hs : ∀ x ∈ satL ws o, x ∈ satL ws a) (hst : Imp ws (andL [bef o, r]) o) : Imp ws o (xS ws (partL ws a M)) := by
  rw [h.stab ho hoo (h.twoB ho hoo hn) (S := fun y => y ∈ satL ws o) fun old y hy => e_one ho hoo hy] at hst
  rw [imp_num h.w.len ho (xS_cx h.w _).1]
  intro x y hx hy h1
  refine (x_zero h.ss hy).2 (h.part.2 (part_most h.in_lt hst (fun x _ hx => hs x hx) hy ((e_one ho hoo hy).1 h1)))
end
end Go.Proofs.YtmjlhbkgljcnoaaGreatDoor
end PartT35
