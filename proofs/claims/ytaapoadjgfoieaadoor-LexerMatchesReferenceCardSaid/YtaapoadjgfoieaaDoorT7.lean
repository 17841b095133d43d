/- The law LexerMatchesReference. -/
import Derived.Test.YtaapoadjgfoieaaDoorT6
set_option linter.unusedSimpArgs false
set_option maxRecDepth 100000
namespace Go.Proofs.YtaapoadjgfoieaaDoor
open Go Go.Ab
theorem law3_ac (s : List UInt8) (σ : St) (G : Glob) (hG : G 0 = some (.agg (symsP.map .str))) (R : A → St → Prop) (h : R (db true) σ) : AC Tryd.prog G 3 [.d (.str s)] σ R := by
  refine ac_enter mixed Tryd.func3 rfl Tryd.ntmps3 (by simp only [facts]) fun hbd => ?_
  simp only [List.length_cons, List.length_nil, Nat.reduceAdd, Nat.reduceSub, List.replicate_succ, List.replicate_zero, List.cons_append, List.nil_append]
  simp only [go_sem, facts]
  refine ac' (head_ac _ _ hG _ ?_)
  simp only [go_sem, facts]
  obtain ⟨r, hr⟩ : ∃ r, lexS symsP s = r := ⟨_, rfl⟩
  refine ac' (plex_ac s r hr _ _ hG _ ?_)
  have hlen := fun ts (h : r = .ok ts) => lexS_len (hr.trans h)
  rcases r with ⟨e, p⟩ | ts
  · simp only [resD, go_sem, facts]
    refine ac' (qlex_ac s _ hr _ _ _ ?_)
    simp only [resD, go_sem, facts, beq_self_eq_true]
    refine exs ⟨fun _ => ?_, fun h => Bool.noConfusion h⟩
    simp only [go_sem, facts]
    refine ac' (same_ac [] [] _ _ _ (by simp) ?_)
    simp only [decide_true, go_sem, facts, Tryd.results3, beq_self_eq_true]
    exact ret_d0 h
  · simp only [resD, go_sem, facts]
    refine ac' (qlex_ac s _ hr _ _ _ ?_)
    simp only [resD, go_sem, facts, beq_self_eq_true]
    refine exs ⟨fun _ => ?_, fun h => Bool.noConfusion h⟩
    simp only [go_sem, facts]
    refine ac' (same_ac ts ts _ _ _ (by have := hlen ts rfl; omega) ?_)
    simp only [decide_true, go_sem, facts, Tryd.results3, beq_self_eq_true]
    exact ret_d0 h
end Go.Proofs.YtaapoadjgfoieaaDoor
