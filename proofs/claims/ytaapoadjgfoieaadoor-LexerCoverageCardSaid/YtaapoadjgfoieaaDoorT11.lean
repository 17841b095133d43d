/- The laws LexerCoverage and LexerConcat. -/
import Derived.Test.YtaapoadjgfoieaaDoorT10
set_option linter.unusedSimpArgs false
set_option maxRecDepth 100000
namespace Go.Proofs.YtaapoadjgfoieaaDoor
open Go Go.Ab
theorem lexL_code {syms : List (List UInt8)} : ∀ (f : Nat) (l : List UInt8) (pos k e q : Nat), lexL syms f l pos k = .error (e, q) → e = 2 ∨ e = 10
  | 0, l, pos, k, e, q, h => by simp [lexL] at h
  | f + 1, l, pos, k, e, q, h => by
    rw [lexL] at h
    split at h
    · cases h
    · split at h
      · simp only [Except.error.injEq, Prod.mk.injEq] at h; exact .inl h.1.symm
      · split at h
        · simp only [Except.error.injEq, Prod.mk.injEq] at h; exact .inr h.1.symm
        · split at h
          · rename_i he
            simp only [Except.error.injEq] at h; subst h
            exact lexL_code f _ _ _ _ _ he
          · cases h
theorem lexS_code {s : List UInt8} {e q : Nat} (h : lexS symsP s = .error (e, q)) : e = 2 ∨ e = 10 := by
  unfold lexS at h
  split at h
  · simp only [Except.error.injEq, Prod.mk.injEq] at h; exact .inl h.1.symm
  · exact lexL_code _ _ _ _ _ _ h
def goodB (r : Res) : Bool := match r with | .ok _ => true | .error _ => false
theorem good_ac' (s : List UInt8) (r : Res) (hr : lexS symsP s = r) (σ : St) (G : Glob) (R : A → St → Prop) (h : R (db (goodB r)) σ) : AC Tryd.prog G 14 [.d (.str s)] σ R := by
  refine good_ac s σ G R ?_
  rw [← lexS_same, hr]
  cases r with
  | ok ts => exact h
  | error q =>
    obtain ⟨e, q⟩ := q
    have : (e == 0) = false := by rcases lexS_code hr with rfl | rfl <;> rfl
    simp only [this]; exact h
/-- The tokens lie one behind the other, with gaps between them. -/
def Cov (s : List UInt8) : Nat → List Tok → Prop
  | e, [] => e ≤ s.length ∧ sk false (s.drop e) = s.length - e
  | e, t :: ts => e ≤ t.pos ∧ 1 ≤ t.text.length ∧ t.pos + t.text.length ≤ s.length ∧ List.drop t.pos (List.take (t.pos + t.text.length) s) = t.text ∧
      sk false (List.drop e (List.take t.pos s)) = t.pos - e ∧ Cov s (t.pos + t.text.length) ts
theorem cov_of {syms : List (List UInt8)} {s : List UInt8} : ∀ (f e k : Nat) (ts : List Tok), s.length - e < f → e ≤ s.length → lexL syms f (s.drop e) e k = .ok ts → Cov s e ts
  | 0, e, k, ts, hf, _, _ => by omega
  | f + 1, e, k, ts, hf, he, h => by
    have hle := sk_le (s.drop e) false
    rw [List.length_drop] at hle
    rw [lexL] at h
    split at h
    · rename_i hg
      simp only [Except.ok.injEq] at h; subst h
      rw [List.length_drop] at hg
      exact ⟨he, hg⟩
    · split at h
      · cases h
      · split at h
        · cases h
        · rename_i kind n htk
          have hn := tok_len htk
          rw [List.length_drop, List.length_drop] at hn
          split at h
          · cases h
          · rename_i r hr
            simp only [Except.ok.injEq] at h; subst h
            rw [List.drop_drop] at hr htk
            have hlen : (List.take n (List.drop (sk false (List.drop e s)) (List.drop e s))).length = n := by simp; omega
            refine ⟨by simp, by rw [hlen]; omega, by simp only [hlen]; omega, ?_, ?_, ?_⟩
            · rw [hlen]
              simp only [List.drop_drop]
              rw [List.drop_take]; congr 1; omega
            · simp only
              rw [List.drop_take, Nat.add_sub_cancel_left, sk_take _ _ _ (Nat.le_refl _)]
            · simp only [hlen]
              exact cov_of f (e + sk false (List.drop e s) + n) (k + 1) r (by omega) (by omega) (by rwa [← Nat.add_assoc] at hr)
theorem covS {s : List UInt8} {ts : List Tok} (h : lexS symsP s = .ok ts) : s.length ≤ 4000 ∧ Cov s 0 ts := by
  unfold lexS at h
  split at h
  · cases h
  · exact ⟨by omega, cov_of (s.length + 1) 0 0 ts (by omega) (by omega) (by rw [List.drop_zero]; exact h)⟩
theorem law4_ac (s : List UInt8) (σ : St) (G : Glob) (hG : G 0 = some (.agg (symsP.map .str))) (R : A → St → Prop) (h : R (db true) σ) : AC Tryd.prog G 4 [.d (.str s)] σ R := by
  refine ac_enter mixed Tryd.func4 rfl Tryd.ntmps4 (by simp only [facts]) fun hbd => ?_
  simp only [List.length_cons, List.length_nil, Nat.reduceAdd, Nat.reduceSub, List.replicate_succ, List.replicate_zero, List.cons_append, List.nil_append]
  simp only [go_sem, facts]
  refine ac' (head_ac _ _ hG _ ?_)
  simp only [go_sem, facts]
  obtain ⟨r, hr⟩ : ∃ r, lexS symsP s = r := ⟨_, rfl⟩
  refine ac' (good_ac' s r hr _ _ _ ?_)
  have z0 : (((0 : Nat) : Int) != 0) = false := rfl
  rcases r with ⟨e, p⟩ | ts
  · simp only [goodB, go_sem, facts, Tryd.results4]
    exact ret_d0 h
  · simp only [goodB, go_sem, facts, Tryd.results4]
    refine ac' (plex_ac s _ hr _ _ hG _ ?_)
    obtain ⟨h4, hcov⟩ := covS hr
    have hlen := lexS_len hr
    simp only [resD, toksD, go_sem, facts, Tryd.results4, z0]
    refine aw_loop (fun m fr st => ∃ (j e : Nat), j ≤ ts.length ∧ m = ts.length - j ∧ Cov s e (ts.drop j) ∧ fr = [.d (.str s), .any, .any, db true, .d (.sl 3 (ts.map tokD)), .any, .any, dn e, dn j, .any, .any, .any, .any, .any, .any, .any, .any, .any, .any, .any, .any, .any, .any, .any, .any, .any, .any, .any, .any, .any, .any, .any, .any, .any, .any, .any, .any, .any, .any, .any, .any, .any, .any, .any, .any, .any, .any, .any, .any, .any, .any, .any, .any, .any, .any, .any, .any, .any, .any, .any, .any, .any, .any, .any, .any, .any, .any, .any, .any, .any, .any, .any, .any, .any, .any, .any, .any, .any, .any, .any, .any, .any, .any, .any, .any, .any, .any, .any, .any, .any, .any, .any, .any, .any, .any, .any, .any, .any, .any, .any, .any, .any, .any, .any, .any, .any, .any] ∧ st = σ) ts.length _
      (Wk.mask [0, 3, 4, 7, 8] ⟨0, 0, by omega, rfl, hcov, rfl, rfl⟩) ?_
    rintro m fr σ ⟨j, e, hj, hm, hc, rfl, rfl⟩
    rcases Nat.lt_or_ge j ts.length with hlt | hge
    · have hd : decide ((j : Int) < (ts.length : Int)) = true := by simp; omega
      obtain ⟨t, ht⟩ : ∃ t, ts[j]? = some t := ⟨_, List.getElem?_eq_getElem hlt⟩
      have e1 : List.getD (List.map tokD ts) j default = tokD t := by rw [List.getD_eq_getElem?_getD, List.getElem?_map, ht]; rfl
      have hdr : ts.drop j = t :: ts.drop (j + 1) := by
        rw [List.drop_eq_getElem_cons hlt]; congr 1
        rw [List.getElem?_eq_getElem hlt] at ht; exact Option.some.inj ht
      rw [hdr] at hc
      obtain ⟨c1, c2, c3, c4, c5, c6⟩ := hc
      have w1 : IntKind.i64.wrap ((j : Int) + 1) = ((j + 1 : Nat) : Int) := by rw [wrap64_id _ (by omega) (by omega)]; rfl
      have d1 : decide ((t.pos : Int) < (e : Int)) = false := by simp; omega
      have d2 : decide ((s.length : Int) < (t.pos : Int)) = false := by simp; omega
      have d3 : (((t.text.length : Nat) : Int) == 0) = false := by rw [beq_eq_false_iff_ne]; omega
      have w3 : IntKind.i64.wrap ((s.length : Int) - (t.pos : Int)) = ((s.length - t.pos : Nat) : Int) := by rw [wrap64_id _ (by omega) (by omega)]; omega
      have d4 : decide (((s.length - t.pos : Nat) : Int) < (t.text.length : Int)) = false := by simp; omega
      have w4 : IntKind.i64.wrap ((t.pos : Int) + (t.text.length : Int)) = ((t.pos + t.text.length : Nat) : Int) := by rw [wrap64_id _ (by omega) (by omega)]; rfl
      simp only [go_sem, facts, List.length_map, hd, e1, tokD, w1, d1, d2, d3, w3, d4, w4, c4, beq_self_eq_true, Tryd.results4]
      refine ⟨⟨by omega, by omega⟩, ⟨by omega, by omega⟩, ⟨by omega, by omega⟩, ⟨by omega, by omega⟩, ⟨by omega, by omega, by omega⟩, ⟨by omega, by omega⟩, ⟨by omega, by omega, by omega⟩, exs ⟨fun _ => ?_, fun h => Bool.noConfusion h⟩⟩
      simp only [go_sem, facts]
      refine ac' (blank_ac _ (by rw [List.length_drop, List.length_take]; omega) _ _ _ ?_)
      have c5' : decide (sk false (List.drop e (List.take t.pos s)) = (List.drop e (List.take t.pos s)).length) = true := by
        rw [c5]; simp; omega
      simp only [go_sem, facts, c5', d2, e1, tokD, w1, w4, List.length_map, Tryd.results4]
      exact ⟨⟨by omega, by omega⟩, Wk.mask [0, 3, 4, 7, 8] ⟨ts.length - (j + 1), by omega, j + 1, t.pos + t.text.length, hlt, rfl, c6, rfl, rfl⟩⟩
    · have hd : decide ((j : Int) < (ts.length : Int)) = false := by simp; omega
      rw [List.drop_of_length_le hge] at hc
      obtain ⟨c1, c2⟩ := hc
      simp only [go_sem, facts, List.length_map, hd, Tryd.results4]
      refine ⟨⟨by omega, by omega, by omega⟩, exs ⟨fun _ => ?_, fun h => Bool.noConfusion h⟩⟩
      simp only [go_sem, facts]
      refine ac' (blank_ac _ (by rw [List.length_drop]; omega) _ _ _ ?_)
      have c2' : decide (sk false (List.drop e s) = (List.drop e s).length) = true := by rw [c2]; simp
      simp only [go_sem, facts, c2', Tryd.results4]
      exact ret_d0 h
end Go.Proofs.YtaapoadjgfoieaaDoor
