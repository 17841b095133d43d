/- What the law package's helpers answer. -/
import Derived.Test.YtaapoadjgfoieaaDoorT5
set_option linter.unusedSimpArgs false
set_option maxRecDepth 100000
namespace Go.Proofs.YtaapoadjgfoieaaDoor
open Go Go.Ab
theorem ceq (a b : Nat) : (((a : Nat) : Int) == ((b : Nat) : Int)) = (a == b) := by rw [Bool.eq_iff_iff]; simp [Int.natCast_inj]
def failsB (r : Except (Nat × Nat) (List Tok)) (p : Nat) : Bool := match r with
  | .error (e, q) => e == 10 && q == p
  | .ok _ => false
theorem fails_ac (syms : List (List UInt8)) (hy : syms.length = 27) (hy1 : ∀ x ∈ syms, x.length ≤ 3) (s : List UInt8) (p : Nat) (σ : St) (G : Glob) (hG : G 0 = some (.agg (syms.map .str))) (R : A → St → Prop)
    (h : R (db (failsB (lexS syms s) p)) σ) : AC Tryd.prog G 18 [.d (.str s), dn p] σ R := by
  refine ac_enter mixed Tryd.func18 rfl Tryd.ntmps18 (by simp only [facts]) fun hbd => ?_
  simp only [List.length_cons, List.length_nil, Nat.reduceAdd, Nat.reduceSub, List.replicate_succ, List.replicate_zero, List.cons_append, List.nil_append]
  simp only [go_sem, facts]
  refine ac' (lex_ac syms hy hy1 s _ _ hG _ ?_)
  cases hl : lexS syms s with
  | error q =>
    obtain ⟨e, q⟩ := q
    rw [hl] at h
    simp only [resD, toksD, go_sem, facts, Tryd.results18]
    rw [failsB] at h
    have e1 : (((e : Nat) : Int) == 10) = (e == 10) := ceq e 10
    rw [e1, ceq, show (((0 : Nat) : Int) == 0) = true from rfl, Bool.and_true]
    exact ret_d0 h
  | ok ts =>
    rw [hl] at h
    simp only [resD, toksD, go_sem, facts, Tryd.results18]
    rw [show (((0 : Nat) : Int) == 10) = false from rfl, Bool.false_and, Bool.false_and]
    exact ret_d0 h
theorem good_ac (s : List UInt8) (σ : St) (G : Glob) (R : A → St → Prop) (h : R (db (match lexS symsR s with | .ok _ => true | .error (e, _) => e == 0)) σ) : AC Tryd.prog G 14 [.d (.str s)] σ R := by
  refine ac_enter mixed Tryd.func14 rfl Tryd.ntmps14 (by simp only [facts]) fun hbd => ?_
  simp only [List.length_cons, List.length_nil, Nat.reduceAdd, Nat.reduceSub, List.replicate_succ, List.replicate_zero, List.cons_append, List.nil_append]
  simp only [go_sem, facts]
  refine ac' (rlex_ac s _ _ _ ?_)
  cases hl : lexS symsR s with
  | error q =>
    obtain ⟨e, q⟩ := q
    rw [hl] at h
    simp only [resD, toksD, go_sem, facts, Tryd.results14]
    have e1 : (((e : Nat) : Int) == 0) = (e == 0) := ceq e 0
    rw [e1]
    exact ret_d0 h
  | ok ts =>
    rw [hl] at h
    simp only [resD, toksD, go_sem, facts, Tryd.results14]
    exact ret_d0 h
/-- The texts are as wanted. -/
theorem texts_ac (syms : List (List UInt8)) (hy : syms.length = 27) (hy1 : ∀ x ∈ syms, x.length ≤ 3) (s : List UInt8) (ts : List Tok) (hl : lexS syms s = .ok ts) (id : Nat) (σ : St) (hσ : σ[id]? = some (some (.cells (ts.map fun t => .d (.str t.text))))) (hw : ts.length ≤ 1073741824)
    (G : Glob) (hG : G 0 = some (.agg (syms.map .str))) (R : A → St → Prop) (h : R (db true) σ) : AC Tryd.prog G 19 [.d (.str s), .rs id 1 0 ts.length (some 9)] σ R := by
  refine ac_enter mixed Tryd.func19 rfl Tryd.ntmps19 (by simp only [facts]) fun hbd => ?_
  simp only [List.length_cons, List.length_nil, Nat.reduceAdd, Nat.reduceSub, List.replicate_succ, List.replicate_zero, List.cons_append, List.nil_append]
  have hlv : liveId σ id = true := live_of hσ
  simp only [go_sem, facts]
  refine ac' (lex_ac syms hy hy1 s _ _ hG _ ?_)
  rw [hl]
  have z : (((0 : Nat) : Int) != 0) = false := rfl
  simp only [resD, toksD, go_sem, facts, Tryd.results19, hlv, z, List.length_map, bne_self_eq_false]
  refine aw_loop (fun m fr st => ∃ j : Nat, j ≤ ts.length ∧ m = ts.length - j ∧
    fr = [.d (.str s), .rs id 1 0 ts.length (some 9), .any, .any, .any, .d (.sl 3 (ts.map tokD)), .any, .any, dn j, .any, .any, .any, .any, .any, .any, .any, .any, .any, .any, .any, .any, .any, .any, .any, .any, .any, .any, .any, .any, .any, .any, .any, .any, .any, .any, .any, .any, .any, .any, .any, .any, .any, .any, .any] ∧ st = σ) ts.length _
    (Wk.mask [0, 1, 5, 8] ⟨0, by omega, rfl, rfl, rfl⟩) ?_
  rintro m fr σ ⟨j, hj, hm, rfl, rfl⟩
  rcases Nat.lt_or_ge j ts.length with hlt | hge
  · have hd : decide ((j : Int) < (ts.length : Int)) = true := by simp; omega
    have e1 : List.getD (List.map tokD ts) j default = tokD ts[j] := by rw [List.getD_eq_getElem?_getD, List.getElem?_map, List.getElem?_eq_getElem hlt]; rfl
    have e2 : List.getD (ts.map fun t => A.d (.str t.text)) j .any = .d (.str ts[j].text) := by rw [List.getD_eq_getElem?_getD, List.getElem?_map, List.getElem?_eq_getElem hlt]; rfl
    have w2 : IntKind.i64.wrap ((j : Int) + 1) = ((j + 1 : Nat) : Int) := by rw [wrap64_id _ (by omega) (by omega)]; rfl
    simp only [go_sem, facts, List.length_map, hd, e1, e2, w2, tokD, Tryd.results19, hlv, objK_of hσ, Nat.mul_one, beq_self_eq_true]
    exact ⟨⟨by omega, by omega⟩, ⟨by omega, by omega⟩, hlt, Wk.mask [0, 1, 5, 8] ⟨ts.length - (j + 1), by omega, j + 1, hlt, rfl, rfl, rfl⟩⟩
  · have hd : decide ((j : Int) < (ts.length : Int)) = false := by simp; omega
    simp only [go_sem, facts, List.length_map, hd, Tryd.results19]
    exact ret_d0 h
def textsB (r : Except (Nat × Nat) (List Tok)) (ws : List (List UInt8)) : Bool := match r with
  | .error _ => false
  | .ok ts => ts.map (fun t => t.text) == ws
theorem texts_ac' (s : List UInt8) (ws : List (List UInt8)) (hok : textsB (lexS symsP s) ws = true) (id k : Nat) (hk : k = ws.length) (cs : List A) (hcs : cs = ws.map fun w => .d (.str w)) (σ : St) (hσ : σ[id]? = some (some (.cells cs))) (hw : ws.length ≤ 1073741824)
    (G : Glob) (hG : G 0 = some (.agg (symsP.map .str))) (R : A → St → Prop) (h : R (db true) σ) : AC Tryd.prog G 19 [.d (.str s), .rs id 1 0 k (some 9)] σ R := by
  unfold textsB at hok
  split at hok
  · cases hok
  · rename_i ts hl
    have hm : ts.map (fun t => t.text) = ws := by simpa using hok
    subst hm; subst hcs
    rw [List.length_map] at hk hw
    subst hk
    exact texts_ac symsP symsP_len symsP_le s ts hl id σ (by rw [hσ]; simp [Function.comp_def]) hw G hG R h
theorem head1 : textsB (lexS symsP [97, 46, 98, 32, 58, 61, 32, 111, 108, 100, 40, 99, 41, 32, 43, 32, 49, 59, 32, 47, 47, 32, 120]) [[97], [46], [98], [58, 61], [111, 108, 100], [40], [99], [41], [43], [49], [59]] = true := by kernel_rfl
theorem head2 : textsB (lexS symsP [112, 32, 61, 61, 62, 32, 113, 61, 61, 114, 60, 61, 115]) [[112], [61, 61, 62], [113], [61, 61], [114], [60, 61], [115]] = true := by kernel_rfl
theorem head3 : failsB (lexS symsP [120, 32, 58, 61, 32, 48, 55]) 5 = true := by kernel_rfl
theorem head4 : failsB (lexS symsP [97, 32, 62, 32, 98]) 2 = true := by kernel_rfl
theorem head_ac (σ : St) (G : Glob) (hG : G 0 = some (.agg (symsP.map .str))) (R : A → St → Prop) (h : R (db true) σ) : AC Tryd.prog G 10 [] σ R := by
  refine ac_enter mixed Tryd.func10 rfl Tryd.ntmps10 (by simp only [facts]) fun hbd => ?_
  simp only [List.length_cons, List.length_nil, Nat.reduceAdd, Nat.reduceSub, List.replicate_succ, List.replicate_zero, List.cons_append, List.nil_append]
  simp only [go_sem, facts]
  refine ⟨by omega, ac' (texts_ac' _ _ head1 _ _ rfl _ rfl _ (by simp) (by decide) _ hG _ ?_)⟩
  simp only [go_sem, facts]
  refine ⟨by omega, exs ⟨fun _ => ?_, fun h => Bool.noConfusion h⟩⟩
  simp only [go_sem, facts]
  refine ac' (texts_ac' _ _ head2 _ _ rfl _ rfl _ (by simp) (by decide) _ hG _ ?_)
  simp only [go_sem, facts]
  refine exs ⟨fun _ => ?_, fun h => Bool.noConfusion h⟩
  simp only [go_sem, facts]
  refine ac' (fails_ac symsP symsP_len symsP_le _ 5 _ _ hG _ ?_)
  rw [head3]
  simp only [go_sem, facts]
  refine exs ⟨fun _ => ?_, fun h => Bool.noConfusion h⟩
  simp only [go_sem, facts]
  refine ac' (fails_ac symsP symsP_len symsP_le _ 2 _ _ hG _ ?_)
  rw [head4]
  simp only [go_sem, facts, Tryd.results10]
  exact ret_bd hbd rfl h
theorem lexS_same (s : List UInt8) : lexS symsP s = lexS symsR s := by unfold lexS; rw [lexL_same]
theorem lexL_k {syms : List (List UInt8)} : ∀ (f : Nat) (l : List UInt8) (pos k : Nat) (ts : List Tok), lexL syms f l pos k = .ok ts → k ≤ 1500 → k + ts.length ≤ 1500
  | 0, l, pos, k, ts, h, hk => by simp only [lexL, Except.ok.injEq] at h; subst h; simpa using hk
  | f + 1, l, pos, k, ts, h, hk => by
    rw [lexL] at h
    split at h
    · simp only [Except.ok.injEq] at h; subst h; simpa using hk
    · split at h
      · cases h
      · split at h
        · cases h
        · split at h
          · cases h
          · rename_i r hr
            simp only [Except.ok.injEq] at h; subst h
            have := lexL_k f _ _ _ _ hr (by omega)
            simp only [List.length_cons]; omega
theorem lexS_len {syms : List (List UInt8)} {s : List UInt8} {ts : List Tok} (h : lexS syms s = .ok ts) : ts.length ≤ 1500 := by
  unfold lexS at h
  split at h
  · cases h
  · have := lexL_k _ _ _ _ _ h (by omega); omega
abbrev Res := Except (Nat × Nat) (List Tok)
theorem plex_ac (s : List UInt8) (r : Res) (hr : lexS symsP s = r) (σ : St) (G : Glob) (hG : G 0 = some (.agg (symsP.map .str))) (R : A → St → Prop) (h : R (resD r) σ) : AC Tryd.prog G 11 [.d (.str s)] σ R :=
  lex_ac symsP symsP_len symsP_le s σ G hG R (by rw [hr]; exact h)
theorem qlex_ac (s : List UInt8) (r : Res) (hr : lexS symsP s = r) (σ : St) (G : Glob) (R : A → St → Prop) (h : R (resD r) σ) : AC Tryd.prog G 12 [.d (.str s)] σ R :=
  rlex_ac s σ G R (by rw [← lexS_same, hr]; exact h)
end Go.Proofs.YtaapoadjgfoieaaDoor
