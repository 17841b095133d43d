/- The laws LexerFirstError and LexerLongest. -/
import Derived.Test.YtaapoadjgfoieaaDoorT6
import Derived.Test.YtaapoadjgfoieaaDoorP2
set_option linter.unusedSimpArgs false
set_option maxRecDepth 100000
namespace Go.Proofs.YtaapoadjgfoieaaDoor
open Go Go.Ab
theorem lexS_first {s : List UInt8} {q : Nat} (h : lexS symsP s = .error (10, q)) : q < s.length ∧ s.length ≤ 4000 ∧ (∃ ts, lexS symsP (s.take q) = .ok ts) ∧ lexS symsP (s.drop q) = .error (10, 0) := by
  unfold lexS at h
  split at h
  · simp at h
  · rename_i h4
    obtain ⟨p, h1, h2, ⟨ts, h3⟩, h5, h6⟩ := lexL_first _ _ _ _ _ h
    rw [Nat.zero_add] at h1
    subst h1
    refine ⟨h2, by omega, ?_, ?_⟩
    · refine ⟨ts, ?_⟩
      unfold lexS
      rw [if_neg (by rw [List.length_take]; omega), lexL_fuel _ (s.length + 1) _ _ _ (by omega) (by rw [List.length_take]; omega)]
      exact h3
    · unfold lexS
      rw [if_neg (by rw [List.length_drop]; omega), lexL, h5, if_neg (by rw [List.length_drop]; omega), if_neg (by omega), List.drop_zero, h6]
theorem law7_ac (s : List UInt8) (σ : St) (G : Glob) (hG : G 0 = some (.agg (symsP.map .str))) (R : A → St → Prop) (h : R (db true) σ) : AC Tryd.prog G 7 [.d (.str s)] σ R := by
  refine ac_enter mixed Tryd.func7 rfl Tryd.ntmps7 (by simp only [facts]) fun hbd => ?_
  simp only [List.length_cons, List.length_nil, Nat.reduceAdd, Nat.reduceSub, List.replicate_succ, List.replicate_zero, List.cons_append, List.nil_append]
  simp only [go_sem, facts]
  refine ac' (head_ac _ _ hG _ ?_)
  simp only [go_sem, facts]
  obtain ⟨r, hr⟩ : ∃ r, lexS symsP s = r := ⟨_, rfl⟩
  refine ac' (qlex_ac s r hr _ _ _ ?_)
  rcases r with ⟨e, p⟩ | ts
  · simp only [resD, go_sem, facts, Tryd.results7]
    refine ⟨fun _ => ret_d0 h, fun he => ?_⟩
    have he : e = 10 := by simp at he; omega
    subst he
    obtain ⟨h1, h2, ⟨ts, h3⟩, h4⟩ := lexS_first hr
    refine ac' (plex_ac s _ hr _ _ hG _ ?_)
    have hc : ((((10 : Nat) : Int) != 10 || decide ((p : Int) < 0) || decide ((s.length : Int) ≤ (p : Int)))) = false := by simp; omega
    simp only [resD, go_sem, facts, Tryd.results7, hc]
    refine ⟨⟨by omega, by omega, by omega⟩, ac' (plex_ac _ _ h3 _ _ hG _ ?_)⟩
    simp only [resD, go_sem, facts, Tryd.results7]
    have z0 : (((0 : Nat) : Int) == 0) = true := rfl
    simp only [z0]
    refine ⟨fun _ => ⟨trivial, by omega, by omega, by omega⟩, exs ⟨fun _ => ?_, fun h => Bool.noConfusion h⟩⟩
    simp only [go_sem, facts, z0]
    refine ac' (fails_ac symsP symsP_len symsP_le _ 0 _ _ hG _ ?_)
    rw [h4]
    simp only [go_sem, facts, Tryd.results7]
    exact ret_d0 h
  · simp only [resD, go_sem, facts, Tryd.results7]
    exact ⟨fun _ => ret_d0 h, fun h => Bool.noConfusion h⟩
theorem lexL_at {syms : List (List UInt8)} : ∀ (f : Nat) (l : List UInt8) (pos k : Nat) (ts : List Tok), lexL syms f l pos k = .ok ts → ∀ t ∈ ts, ∃ g n, t.pos = pos + g ∧ t.text = (l.drop g).take n ∧ tokL syms (l.drop g) = some (t.kind, n) ∧ sk false (l.drop g) = 0
  | 0, l, pos, k, ts, h => by simp only [lexL, Except.ok.injEq] at h; subst h; simp
  | f + 1, l, pos, k, ts, h => by
    rw [lexL] at h
    split at h
    · simp only [Except.ok.injEq] at h; subst h; simp
    · split at h
      · cases h
      · split at h
        · cases h
        · rename_i kind n htk
          split at h
          · cases h
          · rename_i r hr
            simp only [Except.ok.injEq] at h; subst h
            intro t ht
            rcases List.mem_cons.1 ht with rfl | ht
            · exact ⟨sk false l, n, rfl, rfl, htk, sk_again l false⟩
            · obtain ⟨g, m, h1, h2, h3, h4⟩ := lexL_at f _ _ _ _ hr t ht
              rw [List.drop_drop] at h2 h3 h4
              exact ⟨sk false l + n + g, m, by omega, h2, h3, h4⟩
theorem lexS_at {s : List UInt8} {ts : List Tok} (h : lexS symsP s = .ok ts) : s.length ≤ 4000 ∧ ∀ t ∈ ts, ∃ n, t.text = (s.drop t.pos).take n ∧ tokL symsP (s.drop t.pos) = some (t.kind, n) ∧ sk false (s.drop t.pos) = 0 := by
  unfold lexS at h
  split at h
  · cases h
  · refine ⟨by omega, fun t ht => ?_⟩
    obtain ⟨g, n, h1, h2, h3, h4⟩ := lexL_at _ _ _ _ _ h t ht
    rw [Nat.zero_add] at h1
    subst h1
    exact ⟨n, h2, h3, h4⟩
/-- Of a token and one byte more no single token is made. -/
theorem lex_more {l : List UInt8} {k n : Nat} (h : tokL symsP l = some (k, n)) (hn : n < l.length) (ts : List Tok) (hl : lexS symsP (l.take (n + 1)) = .ok ts) : ∀ t, ts = [t] → t.text ≠ l.take (n + 1) := by
  rintro t rfl ht
  have hlen := (tok_len h)
  obtain ⟨-, hat⟩ := lexS_at hl
  obtain ⟨m, h1, h2, h3⟩ := hat t (by simp)
  rw [ht] at h1
  have hle := congrArg List.length h1
  simp only [List.length_take, List.length_drop] at hle
  have hm := tok_len h2
  simp only [List.length_take, List.length_drop] at hm
  have hp : t.pos = 0 := by omega
  rw [hp, List.drop_zero, tok_take h (by omega)] at h2
  simp only [Option.some.injEq, Prod.mk.injEq] at h2
  omega
theorem law8_ac (s : List UInt8) (pick : Nat) (hp : pick ≤ 65535) (σ : St) (G : Glob) (hG : G 0 = some (.agg (symsP.map .str))) (R : A → St → Prop) (h : R (db true) σ) : AC Tryd.prog G 8 [.d (.str s), .d (.int .u16 pick)] σ R := by
  refine ac_enter mixed Tryd.func8 rfl Tryd.ntmps8 (by simp only [facts]) fun hbd => ?_
  simp only [List.length_cons, List.length_nil, Nat.reduceAdd, Nat.reduceSub, List.replicate_succ, List.replicate_zero, List.cons_append, List.nil_append]
  simp only [go_sem, facts]
  refine ac' (head_ac _ _ hG _ ?_)
  simp only [go_sem, facts]
  obtain ⟨r, hr⟩ : ∃ r, lexS symsP s = r := ⟨_, rfl⟩
  refine ac' (qlex_ac s r hr _ _ _ ?_)
  have z0 : (((0 : Nat) : Int) == 0) = true := rfl
  have z1 : (((0 : Nat) : Int) != 0) = false := rfl
  rcases r with ⟨e, p⟩ | ts
  · simp only [resD, toksD, go_sem, facts, Tryd.results8, List.map_nil, z0]
    exact ret_d0 h
  · have hlen := lexS_len hr
    rcases Nat.eq_zero_or_pos ts.length with h0 | h0
    · simp only [resD, toksD, go_sem, facts, Tryd.results8, List.length_map, h0, z0]
      exact ret_d0 h
    · have zl : (((ts.length : Nat) : Int) == 0) = false := by rw [beq_eq_false_iff_ne]; omega
      have w1 : IntKind.i64.wrap (pick : Int) = (pick : Int) := wrap64_id _ (by omega) (by omega)
      have tm : Int.tmod (pick : Int) (ts.length : Int) = ((pick % ts.length : Nat) : Int) := rfl
      have hj : pick % ts.length < ts.length := Nat.mod_lt _ (by omega)
      obtain ⟨t, ht⟩ : ∃ t, ts[pick % ts.length]? = some t := ⟨_, List.getElem?_eq_getElem hj⟩
      have e1 : List.getD (List.map tokD ts) (pick % ts.length) default = tokD t := by rw [List.getD_eq_getElem?_getD, List.getElem?_map, ht]; rfl
      obtain ⟨h4, hat⟩ := lexS_at hr
      obtain ⟨n, k1, k2, k3⟩ := hat t (List.mem_of_getElem? ht)
      have hn := tok_len k2
      rw [List.length_drop] at hn
      have htl : t.text.length = n := by rw [k1, List.length_take, List.length_drop]; omega
      have w2 : IntKind.i64.wrap ((t.pos : Int) + (t.text.length : Int)) = ((t.pos + n : Nat) : Int) := by rw [htl, wrap64_id _ (by omega) (by omega)]; rfl
      have w3 : IntKind.i64.wrap (((t.pos + n : Nat) : Int) + 1) = ((t.pos + n + 1 : Nat) : Int) := by rw [wrap64_id _ (by omega) (by omega)]; rfl
      have hmore : t.text ++ List.drop (t.pos + n) (List.take (t.pos + n + 1) s) = (s.drop t.pos).take (n + 1) := by
        have e2 : List.drop (t.pos + n) (List.take (t.pos + n + 1) s) = (s.drop (t.pos + n)).take 1 := by rw [List.drop_take]; congr 1; omega
        rw [e2, k1, List.take_add, List.drop_drop]
      simp only [resD, toksD, go_sem, facts, Tryd.results8, List.length_map, zl, z1, w1, tm, e1, tokD, w2, w3, hmore]
      refine ⟨by omega, ⟨by omega, by omega⟩, fun _ => ret_d hbd h, fun hc => ⟨⟨by omega, by omega, by simp at hc; omega⟩, by simp [htl]; omega, ?_⟩⟩
      have hend : t.pos + n < s.length := by simp at hc; omega
      obtain ⟨r2, hr2⟩ : ∃ r, lexS symsP ((s.drop t.pos).take (n + 1)) = r := ⟨_, rfl⟩
      have hm := fun ts h => lex_more k2 (by rw [List.length_drop]; omega) ts (hr2.trans h)
      refine ac' (plex_ac _ _ hr2 _ _ hG _ ?_)
      have z01 : (((0 : Nat) : Int) != 1) = true := rfl
      rcases r2 with ⟨e, p⟩ | us
      · simp only [resD, toksD, go_sem, facts, Tryd.results8, List.map_nil, z01, hmore]
        exact ret_d hbd h
      · by_cases hu : us.length = 1
        · obtain ⟨u, rfl⟩ : ∃ u, us = [u] := by
            match us, hu with
            | [u], _ => exact ⟨u, rfl⟩
          have hne := hm [u] rfl u rfl
          have z11 : (((1 : Nat) : Int) != 1) = false := rfl
          have e3 : List.getD [D.agg [D.int IntKind.i64 u.kind, D.str u.text, D.int IntKind.i64 u.pos]] (Int.toNat 0) default = D.agg [D.int IntKind.i64 u.kind, D.str u.text, D.int IntKind.i64 u.pos] := rfl
          have e4 : (u.text == (s.drop t.pos).take (n + 1)) = false := by rw [beq_eq_false_iff_ne]; exact hne
          simp only [resD, toksD, go_sem, facts, Tryd.results8, List.map_cons, List.map_nil, z1, z11, e3, tokD, hmore, e4]
          exact ⟨⟨by omega, by omega⟩, ret_d hbd h⟩
        · have z11 : (((us.length : Nat) : Int) != 1) = true := by rw [bne_iff_ne]; omega
          simp only [resD, toksD, go_sem, facts, Tryd.results8, List.length_map, z1, z11, hmore]
          exact ret_d hbd h
end Go.Proofs.YtaapoadjgfoieaaDoor
