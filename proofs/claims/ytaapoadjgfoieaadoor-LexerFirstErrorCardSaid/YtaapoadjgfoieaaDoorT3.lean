/- What the lexer answers. -/
import Derived.Test.YtaapoadjgfoieaaDoorT2
set_option linter.unusedSimpArgs false
set_option maxRecDepth 100000
namespace Go.Proofs.YtaapoadjgfoieaaDoor
open Go Go.Ab
def tokD (t : Tok) : D := .agg [.int .i64 t.kind, .str t.text, .int .i64 t.pos]
theorem tokD_cells (ts : List Tok) : ∀ x ∈ ts.map tokD, x.cells.length = 3 ∧ ∀ y ∈ x.cells, y.one = true := by
  intro x hx
  simp only [List.mem_map] at hx
  obtain ⟨t, _, rfl⟩ := hx
  refine ⟨rfl, fun y hy => ?_⟩
  simp only [tokD, D.cells, List.mem_cons, List.not_mem_nil, or_false] at hy
  rcases hy with rfl | rfl | rfl <;> rfl
/-- A slice of tokens, read as data. -/
def toksD (ts : List Tok) : D := .sl 3 (ts.map tokD)
/-- A result of the lexer. -/
def resD : Except (Nat × Nat) (List Tok) → A
  | .error (e, p) => .tup [.d (toksD []), dn e, dn p]
  | .ok ts => .tup [.d (toksD ts), dn 0, dn 0]
/-- The result for a source, its length looked at first. -/
def lexS (syms : List (List UInt8)) (s : List UInt8) : Except (Nat × Nat) (List Tok) := if 4000 < s.length then .error (2, 0) else lexL syms (s.length + 1) s 0 0
theorem lex_ac (syms : List (List UInt8)) (hy : syms.length = 27) (hy1 : ∀ x ∈ syms, x.length ≤ 3) (s : List UInt8) (σ : St) (G : Glob) (hG : G 0 = some (.agg (syms.map .str))) (R : A → St → Prop)
    (h : R (resD (lexS syms s)) σ) : AC Tryd.prog G 11 [.d (.str s)] σ R := by
  refine ac_enter mixed Tryd.func11 rfl Tryd.ntmps11 (by simp only [facts]) fun hbd => ?_
  simp only [List.length_cons, List.length_nil, Nat.reduceAdd, Nat.reduceSub, List.replicate_succ, List.replicate_zero, List.cons_append, List.nil_append]
  simp only [go_sem, facts, Tryd.results11]
  have err : ∀ (e p : Nat) (junk : St), lexS syms s = .error (e, p) → ∃ r σ', Weak G σ.length [.tup [.d .nils, dn e, dn p]] (σ ++ junk) [r] σ' ∧ R r σ' := fun e p junk he => by
    refine ret_imp (b := .tup [.d (toksD []), dn e, dn p]) (fun ρ w v => imp_tup fun v => imp_nils 3) (ret_bd hbd rfl ?_)
    rw [he] at h; exact h
  refine ⟨fun hc => ?_, fun hc => ?_⟩
  · have := err 2 0 [] (by rw [lexS, if_pos (by simp at hc; omega)])
    rw [List.append_nil] at this; exact this
  have hs : s.length ≤ 4000 := by simp at hc; omega
  have hl : lexS syms s = lexL syms (s.length + 1) s 0 0 := by rw [lexS, if_neg (by omega)]
  refine aw_loop (fun m fr st => ∃ (pos f : Nat) (ts : List Tok), pos ≤ s.length ∧ m = s.length - pos ∧ s.length - pos < f ∧ ts.length ≤ 1500 ∧ cont ts (lexL syms f (s.drop pos) pos ts.length) = lexS syms s ∧
    fr = [.d (.str s), .any, .any, .any, .any, .ref σ.length 0, .rs (σ.length + 1) 3 0 ts.length (some 30), dn pos, .any, .any, .any, .any, .any, .any, .any, .any, .any, .any, .any, .any, .any, .any, .any, .any, .any, .any, .any, .any, .any, .any, .any, .any, .any, .any, .any, .any, .any, .any, .any, .any, .any, .any, .any, .any, .any, .any, .any] ∧
    st = σ ++ [some (Ob.cells [A.d (D.str s)]), some (Ob.cells (flat (ts.map tokD)))]) (s.length) _
    ⟨_, _, (Weak.mask [0, 5, 6, 7]).trans (Weak.empty 6 3 (some 30) rfl), 0, s.length + 1, [], by omega, rfl, by omega, by simp, by rw [hl, List.drop_zero]; simp only [List.length_nil]; cases lexL syms (s.length + 1) s 0 0 <;> rfl, by simp only [maskN, List.length_append, List.length_cons, List.length_nil]; rfl, by simp [flat]⟩ ?_
  rintro m fr st ⟨pos, f, ts, hpos, hm, hf, hts, hr, rfl, rfl⟩
  obtain ⟨f, rfl⟩ : ∃ f', f = f' + 1 := ⟨f - 1, by omega⟩
  have hst := lexL_step (syms := syms) (f := f) (k := ts.length) (ts := ts) rfl hpos
  rw [hr] at hst
  have hle := sk_le (s.drop pos) false
  simp only [List.length_drop] at hle
  simp only [go_sem, facts]
  refine ac' (gap_ac s (by omega) pos hpos _ _ _ ?_)
  have hfl : (flat (ts.map tokD)).length = ts.length * 3 := by rw [flat_len fun x hx => (tokD_cells ts x hx).1]; simp
  generalize hg : pos + sk false (s.drop pos) = g at *
  simp only [go_sem, facts, Tryd.results11]
  refine ⟨fun hc => ?_, fun hc => ?_⟩
  · rw [if_pos (by simp at hc; omega)] at hst
    refine ret_frz 1 3 0 (ts.map tokD) rfl (lies_of (tokD_cells ts)) ?_
    simp only [go_sem, and_self, List.length_map]
    refine ret_bd hbd rfl ?_
    rw [hst] at h; exact h
  rw [if_neg (by simp at hc; omega)] at hst
  refine ⟨fun hc2 => err 2 g _ ?_, fun hc2 => ac' (token_ac syms hy hy1 s (by omega) g (by simp at hc; omega) _ _ hG _ ?_)⟩
  · rw [hst, if_pos (by simp at hc2; omega)]
  rw [if_neg (by simp at hc2; omega)] at hst
  cases htk : tokL syms (s.drop g) with
  | none =>
    rw [htk] at hst
    have hk0 : (((0 : Nat) : Int) == 0) = true := rfl
    simp only [go_sem, facts, Tryd.results11, hk0]
    exact err 10 g _ hst
  | some q =>
    obtain ⟨kind, n⟩ := q
    have hn := tok_len htk
    rw [htk] at hst
    simp only [List.length_drop] at hn hst
    have hk : (((kind : Nat) : Int) == 0) = false := by simp; omega
    simp only [go_sem, facts, Tryd.results11, hk]
    refine ⟨⟨by omega, by omega, by omega⟩, by omega, ⟨hfl, by simp only [maxLen]; omega, by omega⟩, ?_⟩
    refine Wk.keep [0, 5, 6, 7] [0, 3] (by decide) (Nat.le_refl _) hbd ⟨s.length - (g + n), by omega, g + n, f, ts ++ [⟨kind, (s.drop g).take n, g⟩], by omega, rfl, by omega, by simp at hc2; simp; omega, ?_, ?_, ?_⟩
    · rw [hst]; simp
    · simp only [go_sem]
    · simp only [go_sem]
      simp [flat, tokD, D.cells, List.drop_take]
end Go.Proofs.YtaapoadjgfoieaaDoor
