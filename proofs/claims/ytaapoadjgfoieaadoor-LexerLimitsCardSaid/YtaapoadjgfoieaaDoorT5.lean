/- What the reference lexer answers. -/
import Derived.Test.YtaapoadjgfoieaaDoorT4
set_option linter.unusedSimpArgs false
set_option maxRecDepth 100000
namespace Go.Proofs.YtaapoadjgfoieaaDoor
open Go Go.Ab
theorem rlex_ac (s : List UInt8) (σ : St) (G : Glob) (R : A → St → Prop)
    (h : R (resD (lexS symsR s)) σ) : AC Tryd.prog G 12 [.d (.str s)] σ R := by
  refine ac_enter mixed Tryd.func12 rfl Tryd.ntmps12 (by simp only [facts]) fun hbd => ?_
  simp only [List.length_cons, List.length_nil, Nat.reduceAdd, Nat.reduceSub, List.replicate_succ, List.replicate_zero, List.cons_append, List.nil_append]
  simp only [go_sem, facts, Tryd.results12]
  have err : ∀ (e p : Nat) (junk : St), lexS symsR s = .error (e, p) → ∃ r σ', Weak G σ.length [.tup [.d .nils, dn e, dn p]] (σ ++ junk) [r] σ' ∧ R r σ' := fun e p junk he => by
    refine ret_imp (b := .tup [.d (toksD []), dn e, dn p]) (fun ρ w v => imp_tup fun v => imp_nils 3) (ret_bd hbd rfl ?_)
    rw [he] at h; exact h
  refine ⟨fun hc => ?_, fun hc => ?_⟩
  · have := err 2 0 [] (by rw [lexS, if_pos (by simp at hc; omega)])
    rw [List.append_nil] at this; exact this
  have hs : s.length ≤ 4000 := by simp at hc; omega
  have hl : lexS symsR s = lexL symsR (s.length + 1) s 0 0 := by rw [lexS, if_neg (by omega)]
  refine ac' (skip_ac s (by omega) 0 (by omega) _ _ _ ?_)
  simp only [go_sem, facts, Tryd.results12]
  refine aw_loop (fun m fr st => ∃ (pos f g : Nat) (ts : List Tok), pos ≤ s.length ∧ m = s.length - pos ∧ s.length - pos < f ∧ ts.length ≤ 1500 ∧ g = pos + sk false (s.drop pos) ∧ cont ts (lexL symsR f (s.drop pos) pos ts.length) = lexS symsR s ∧
    fr = [.d (.str s), .any, .any, .any, .any, .rs σ.length 3 0 ts.length (some 30), dn g, .any, .any, .any, .any, .any, .any, .any, .any, .any, .any, .any, .any, .any, .any, .any, .any, .any, .any, .any, .any, .any, .any, .any, .any, .any, .any, .any, .any, .any, .any, .any, .any, .any, .any, .any, .any] ∧
    st = σ ++ [some (Ob.cells (flat (ts.map tokD)))]) (s.length) _
    ⟨_, _, (Weak.mask [0, 5, 6]).trans (Weak.empty 5 3 (some 30) rfl), 0, s.length + 1, sk false s, [], by omega, rfl, by omega, by simp, by simp, by rw [hl, List.drop_zero]; simp only [List.length_nil]; cases lexL symsR (s.length + 1) s 0 0 <;> rfl, by simp only [maskN]; rfl, by simp [flat]⟩ ?_
  rintro m fr st ⟨pos, f, g, ts, hpos, hm, hf, hts, hg, hr, rfl, rfl⟩
  obtain ⟨f, rfl⟩ : ∃ f', f = f' + 1 := ⟨f - 1, by omega⟩
  have hst := lexL_step (syms := symsR) (f := f) (k := ts.length) (ts := ts) hg hpos
  rw [hr] at hst
  have hle := sk_le (s.drop pos) false
  simp only [List.length_drop] at hle
  have hfl : (flat (ts.map tokD)).length = ts.length * 3 := by rw [flat_len fun x hx => (tokD_cells ts x hx).1]; simp
  simp only [go_sem, facts, Tryd.results12]
  refine ⟨fun hc => ?_, fun hc => ?_⟩
  · rw [if_neg (by simp at hc; omega)] at hst
    refine ⟨fun hc2 => err 2 g _ ?_, fun hc2 => ac' (rtoken_ac s (by omega) g (by simp at hc; omega) _ _ _ ?_)⟩
    · rw [hst, if_pos (by simp at hc2; omega)]
    rw [if_neg (by simp at hc2; omega)] at hst
    cases htk : tokL symsR (s.drop g) with
    | none =>
      rw [htk] at hst
      intro t
      simp only [go_sem, facts, Tryd.results12, tokD]
      exact err 10 g _ hst
    | some q =>
      obtain ⟨kind, n⟩ := q
      have hn := tok_len htk
      rw [htk] at hst
      simp only [List.length_drop] at hn hst
      have hlt : (List.take n (List.drop g s)).length = n := by simp; omega
      have w1 : IntKind.i64.wrap ((g : Int) + ((List.take n (List.drop g s)).length : Int)) = ((g + n : Nat) : Int) := by rw [hlt, wrap64_id _ (by omega) (by omega)]; rfl
      simp only [go_sem, facts, Tryd.results12, tokD, w1]
      refine ⟨by omega, ⟨hfl, by simp at hc2; simp only [maxLen]; omega, by omega⟩, ac' (skip_ac s (by omega) (g + n) (by omega) _ _ _ ?_)⟩
      simp only [go_sem, facts, Tryd.results12]
      refine Wk.keep [0, 5, 6] [3] (by decide) (Nat.le_refl _) hbd ⟨s.length - (g + n), by omega, g + n, f, _, ts ++ [⟨kind, (s.drop g).take n, g⟩], by omega, rfl, by omega, by simp at hc2; simp; omega, rfl, ?_, ?_, ?_⟩
      · rw [hst]; simp
      · simp only [go_sem, List.length_append]
      · simp only [go_sem]
        simp [flat, tokD, D.cells]
  · rw [if_pos (by simp at hc; omega)] at hst
    refine ret_frz 0 3 0 (ts.map tokD) rfl (lies_of (tokD_cells ts)) ?_
    simp only [go_sem, and_self, List.length_map]
    refine ret_bd hbd rfl ?_
    rw [hst] at h; exact h
theorem tok_eq (a b : Tok) : eqCells [PK.int, PK.str, PK.int] [D.int IntKind.i64 a.kind, D.str a.text, D.int IntKind.i64 a.pos] [D.int IntKind.i64 b.kind, D.str b.text, D.int IntKind.i64 b.pos] = some (decide (a = b)) := by
  obtain ⟨k, t, p⟩ := a
  obtain ⟨k', t', p'⟩ := b
  simp only [eqCells, eqD1, if_true, Option.some.injEq]
  rw [Bool.eq_iff_iff]
  simp [Int.natCast_inj]
theorem same_ac (ts us : List Tok) (σ : St) (G : Glob) (R : A → St → Prop) (ht : ts.length ≤ 1073741824) (h : R (db (decide (ts = us))) σ) : AC Tryd.prog G 13 [.d (toksD ts), .d (toksD us)] σ R := by
  refine ac_enter mixed Tryd.func13 rfl Tryd.ntmps13 (by simp only [facts]) fun hbd => ?_
  simp only [List.length_cons, List.length_nil, Nat.reduceAdd, Nat.reduceSub, List.replicate_succ, List.replicate_zero, List.cons_append, List.nil_append]
  simp only [toksD, go_sem, facts, Tryd.results13, List.length_map]
  refine ⟨fun hc => ret_d0 ?_, fun hc => ?_⟩
  · rw [show decide (ts = us) = false by simp only [decide_eq_false_iff_not]; rintro rfl; simp at hc] at h; exact h
  have hlen : ts.length = us.length := by simp at hc; omega
  refine aw_loop (fun m fr st => ∃ j : Nat, j ≤ ts.length ∧ m = ts.length - j ∧ (∀ k, k < j → ts[k]? = us[k]?) ∧
    fr = [.d (.sl 3 (ts.map tokD)), .d (.sl 3 (us.map tokD)), .any, .any, .any, dn j, .any, .any, .any, .any, .any, .any, .any, .any, .any, .any, .any, .any, .any, .any, .any, .any, .any, .any, .any, .any] ∧ st = σ) ts.length _
    (Wk.mask [0, 1, 5] ⟨0, by omega, rfl, fun k hk => by omega, rfl, rfl⟩) ?_
  rintro m fr σ ⟨j, hj, hm, hall, rfl, rfl⟩
  rcases Nat.lt_or_ge j ts.length with hlt | hge
  · have hd : decide ((j : Int) < (ts.length : Int)) = true := by simp; omega
    have e1 : List.getD (List.map tokD ts) j default = tokD ts[j] := by rw [List.getD_eq_getElem?_getD, List.getElem?_map, List.getElem?_eq_getElem hlt]; rfl
    have e2 : List.getD (List.map tokD us) j default = tokD us[j] := by rw [List.getD_eq_getElem?_getD, List.getElem?_map, List.getElem?_eq_getElem (by omega)]; rfl
    have w2 : IntKind.i64.wrap ((j : Int) + 1) = ((j + 1 : Nat) : Int) := by rw [wrap64_id _ (by omega) (by omega)]; rfl
    simp only [go_sem, facts, List.length_map, hd, e1, e2, w2, tokD, Tryd.results13]
    rw [tok_eq]
    simp only [optK_some]
    refine ⟨⟨by omega, by omega⟩, ⟨by omega, by omega⟩, fun hne => ret_d0 ?_, fun heq => Wk.mask [0, 1, 5] ⟨ts.length - (j + 1), by omega, j + 1, hlt, rfl, fun k hk => ?_, rfl, rfl⟩⟩
    · rw [show decide (ts = us) = false by simp only [decide_eq_false_iff_not]; rintro rfl; simp at hne] at h; exact h
    · rcases Nat.lt_or_ge k j with hki | hki
      · exact hall k hki
      · obtain rfl : k = j := by omega
        rw [List.getElem?_eq_getElem hlt, List.getElem?_eq_getElem (by omega)]
        simpa using heq
  · have hd : decide ((j : Int) < (ts.length : Int)) = false := by simp; omega
    simp only [go_sem, facts, List.length_map, hd, Tryd.results13]
    have : ts = us := List.ext_getElem? fun k => by
      rcases Nat.lt_or_ge k j with hk | hk
      · exact hall k hk
      · rw [List.getElem?_eq_none (by omega), List.getElem?_eq_none (by omega)]
    rw [show decide (ts = us) = true by simpa using this] at h
    exact ret_d0 h
end Go.Proofs.YtaapoadjgfoieaaDoor
