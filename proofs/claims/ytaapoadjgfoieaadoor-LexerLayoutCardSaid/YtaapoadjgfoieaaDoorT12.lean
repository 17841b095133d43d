/- The law LexerConcat. -/
import Derived.Test.YtaapoadjgfoieaaDoorT11
set_option linter.unusedSimpArgs false
set_option maxRecDepth 100000
namespace Go.Proofs.YtaapoadjgfoieaaDoor
open Go Go.Ab
theorem syms_no10 : ∀ y ∈ symsP, (10 : UInt8) ∉ y := by decide
theorem lexS_small {s : List UInt8} (h : s.length ≤ 4000) (f : Nat) (hf : s.length < f) : lexS symsP s = lexL symsP f s 0 0 := by
  unfold lexS
  rw [if_neg (by omega)]
  exact lexL_fuel _ _ _ _ _ (by omega) hf
theorem lexS_concat {a b : List UInt8} {ts : List Tok} (ha : lexS symsP a = .ok ts) (hl : a.length + 1 + b.length ≤ 4000) :
    ∃ R', lexS symsP (a ++ 10 :: b) = cont ts R' ∧ Shifted 0 (a.length + 1) ts.length (lexS symsP b) R' := by
  have hts := lexS_len ha
  rw [lexS_small (by omega) (a.length + 1) (by omega)] at ha
  have h1 := lexL_concat syms_no10 _ _ _ _ _ ha (by omega) b (a.length + 1 + b.length + 1) (b.length + 1) (by omega) (by omega)
  have h2 := lexL_shift (syms := symsP) (a.length + 1) ts.length (b.length + 1) b 0 0 (by omega)
  refine ⟨lexL symsP (b.length + 1) b (0 + a.length + 1) (0 + ts.length), ?_, ?_⟩
  · rw [lexS_small (by simp; omega) (a.length + 1 + b.length + 1) (by simp; omega)]
    exact h1
  · rw [lexS_small (by omega) (b.length + 1) (by omega)]
    simp only [Nat.zero_add] at h2 ⊢
    exact h2
theorem law6_ac (a b : List UInt8) (ha : a.length ≤ reachBytes) (hb : b.length ≤ reachBytes) (σ : St) (G : Glob) (hG : G 0 = some (.agg (symsP.map .str))) (R : A → St → Prop) (h : R (db true) σ) : AC Tryd.prog G 6 [.d (.str a), .d (.str b)] σ R := by
  refine ac_enter mixed Tryd.func6 rfl Tryd.ntmps6 (by simp only [facts]) fun hbd => ?_
  simp only [List.length_cons, List.length_nil, Nat.reduceAdd, Nat.reduceSub, List.replicate_succ, List.replicate_zero, List.cons_append, List.nil_append]
  simp only [go_sem, facts]
  refine ac' (head_ac _ _ hG _ ?_)
  simp only [go_sem, facts]
  obtain ⟨r, hr⟩ : ∃ r, lexS symsP a = r := ⟨_, rfl⟩
  refine ac' (good_ac' a r hr _ _ _ ?_)
  rcases r with ⟨e, p⟩ | ts
  · simp only [goodB, go_sem, facts, Tryd.results6]
    exact ret_d0 h
  · unfold reachBytes at ha hb
    have w1 : IntKind.i64.wrap ((a.length : Int) + 1) = ((a.length + 1 : Nat) : Int) := by rw [wrap64_id _ (by omega) (by omega)]; rfl
    have w2 : IntKind.i64.wrap (((a.length + 1 : Nat) : Int) + (b.length : Int)) = ((a.length + 1 + b.length : Nat) : Int) := by rw [wrap64_id _ (by omega) (by omega)]; rfl
    simp only [goodB, go_sem, facts, Tryd.results6, w1, w2]
    refine ⟨fun _ => ret_d0 h, fun hc => ?_⟩
    have hl : a.length + 1 + b.length ≤ 4000 := by simp at hc; omega
    have hts := lexS_len hr
    obtain ⟨hat4, hat⟩ := lexS_at hr
    obtain ⟨M, hM, hS⟩ := lexS_concat hr hl
    refine ac' (plex_ac a _ hr _ _ hG _ ?_)
    simp only [resD, toksD, go_sem, facts, Tryd.results6]
    obtain ⟨r2, hr2⟩ : ∃ r, lexS symsP b = r := ⟨_, rfl⟩
    refine ac' (plex_ac b _ hr2 _ _ hG _ ?_)
    rw [hr2] at hS
    have z22 : (((2 : Nat) : Int) == 2) = true := rfl
    have z02 : (((0 : Nat) : Int) == 2) = false := rfl
    have z102 : (((10 : Nat) : Int) == 2) = false := rfl
    have z100 : (((10 : Nat) : Int) != 0) = true := rfl
    have z20 : (((2 : Nat) : Int) != 0) = true := rfl
    have z00 : (((0 : Nat) : Int) != 0) = false := rfl
    have z0 : (((0 : Nat) : Int) == 0) = true := rfl
    have lim : ∀ q, a.length + 1 ≤ q → decide (((a.length + 1 : Nat) : Int) ≤ (q : Int)) = true := fun q hq => by simp; omega
    have cat : a ++ [10] ++ b = a ++ 10 :: b := by simp
    rcases r2 with ⟨e2, p2⟩ | us
    · rcases hS with ⟨q, i1, rfl, -⟩ | ⟨rfl, rfl⟩
      · rw [Nat.zero_add] at i1
        have he2 : (((e2 : Nat) : Int) != 0) = true := by rcases lexS_code hr2 with rfl | rfl <;> rfl
        simp only [resD, toksD, go_sem, facts, Tryd.results6, w1, cat]
        refine ⟨by omega, by omega, ac' (plex_ac _ _ hM _ _ hG _ ?_)⟩
        simp only [cont, resD, toksD, go_sem, facts, Tryd.results6, w1, z22, z0, he2, lim q i1, List.map_nil]
        exact ret_d0 h
      · have w3 : IntKind.i64.wrap (((a.length + 1 : Nat) : Int) + (p2 : Int)) = ((a.length + 1 + p2 : Nat) : Int) := by
          have := (lexS_first hr2).1
          rw [wrap64_id _ (by omega) (by omega)]; rfl
        have eq1 : (((p2 + (a.length + 1) : Nat) : Int) == ((a.length + 1 + p2 : Nat) : Int)) = true := by rw [beq_iff_eq]; omega
        simp only [resD, toksD, go_sem, facts, Tryd.results6, w1, cat]
        refine ⟨by omega, by omega, ac' (plex_ac _ _ hM _ _ hG _ ?_)⟩
        simp only [cont, resD, toksD, go_sem, facts, Tryd.results6, w1, z102, z100, z0, w3, List.map_nil]
        rw [beq_self_eq_true, eq1]
        exact ret_d0 h
    · have hus := lexS_len hr2
      rcases hS with ⟨q, i1, rfl, i3⟩ | ⟨i1, i2⟩
      · rw [Nat.zero_add] at i1
        have i3 := i3 us rfl
        have w3 : IntKind.i64.wrap ((ts.length : Int) + (us.length : Int)) = ((ts.length + us.length : Nat) : Int) := by rw [wrap64_id _ (by omega) (by omega)]; rfl
        have d3 : decide ((1500 : Int) < ((ts.length + us.length : Nat) : Int)) = true := by simp; omega
        simp only [resD, toksD, go_sem, facts, Tryd.results6, w1, cat]
        refine ⟨by omega, by omega, ac' (plex_ac _ _ hM _ _ hG _ ?_)⟩
        simp only [cont, resD, toksD, go_sem, facts, Tryd.results6, w1, w3, d3, z22, z0, z00, lim q i1, List.map_nil, List.length_map]
        exact ret_d0 h
      · subst i1
        simp only [resD, toksD, go_sem, facts, Tryd.results6, w1, cat]
        refine ⟨by omega, by omega, ac' (plex_ac _ _ hM _ _ hG _ ?_)⟩
        simp only [cont, resD, toksD, go_sem, facts, Tryd.results6, w1, z02, z00, z0, List.length_map]
        have hpos : ∀ t ∈ us, t.pos ≤ 5000 := fun t ht => by
          obtain ⟨g4, gat⟩ := lexS_at hr2
          obtain ⟨n, _, k2, _⟩ := gat t ht
          have := tok_len k2
          rw [List.length_drop] at this; omega
        refine ⟨by omega, ⟨by simp only [maxLen]; omega, by omega⟩, ac' (shift_ac us (a.length + 1) (by omega) hus hpos _ _ _ ?_)⟩
        simp only [toksD, go_sem, facts, Tryd.results6, z0, List.length_map]
        have hfl : (flat (ts.map tokD)).length = ts.length * 3 := by rw [flat_len fun x hx => (tokD_cells _ x hx).1]; simp
        refine ⟨⟨hfl, by simp only [maxLen]; omega, by omega⟩, exs ⟨fun _ => ?_, fun h => Bool.noConfusion h⟩⟩
        simp only [go_sem, facts]
        have hcs : flat ((ts ++ us.map (shiftT (a.length + 1))).map tokD) = flat (ts.map tokD) ++ flat ((us.map (shiftT (a.length + 1))).map tokD) := by simp [flat]
        refine ac' (ac_frz 2 3 0 ((ts ++ us.map (shiftT (a.length + 1))).map tokD) (congrArg (fun z => some (some (Ob.cells z))) hcs.symm) (lies_of (tokD_cells _)) ?_)
        simp only [go_sem, and_self, List.length_map, List.length_append]
        refine same_ac _ _ _ _ _ (by simp; omega) ?_
        simp only [decide_true, go_sem, facts, Tryd.results6]
        exact ret_d hbd h
end Go.Proofs.YtaapoadjgfoieaaDoor
