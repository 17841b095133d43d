import Derived.Test.YtnanofipjiclfaaZ89
import Derived.Test.YtnanofipjiclfaaAbMore
import Derived.Test.YtnanofipjiclfaaAbFreeze

section PartQ32
/- Circuits of gates. -/
set_option linter.unusedSimpArgs false
set_option linter.unusedVariables false
set_option maxRecDepth 100000
namespace Go.Proofs.Ytnanofipjiclfaa
open Go Go.Ab

structure Gat where
  xor : Bool
  na : Bool
  nb : Bool
  a : Nat
  b : Nat
def gat0 : Gat := ⟨false, false, false, 0, 0⟩
def kid (w a : Nat) (neg : Bool) : Int := if neg then -((a % w + 1 : Nat) : Int) else ((a % w + 1 : Nat) : Int)
def gcl (v : Nat) (x y : Int) (xor : Bool) : List (List Int) :=
  if xor then [[-(v : Int), x, y], [-(v : Int), -x, -y], [(v : Int), -x, y], [(v : Int), x, -y]] else [[-(v : Int), x], [-(v : Int), y], [(v : Int), -x, -y]]
section
variable (b : Nat) (gs : List Gat)
def gAt (i : Nat) : Gat := gs.getD i gat0
def kx (i : Nat) : Int := kid (b + i) (gAt gs i).a (gAt gs i).na
def ky (i : Nat) : Int := kid (b + i) (gAt gs i).b (gAt gs i).nb
def gcls (i : Nat) : List (List Int) := gcl (b + 1 + i) (kx b gs i) (ky b gs i) (gAt gs i).xor
def circ (j : Nat) : List (List Int) := (List.range j).flatMap (gcls b gs)
def kids (j : Nat) : List (Int × Int) := (List.range j).map fun i => (kx b gs i, ky b gs i)
def outB (all i : Nat) : Bool := if (gAt gs i).xor then (trueB all (kx b gs i) != trueB all (ky b gs i)) else (trueB all (kx b gs i) && trueB all (ky b gs i))
def runG (n : Nat) : Nat → Nat
  | 0 => n
  | j + 1 => if outB b gs (runG n j) j then runG n j ||| 2 ^ (b + j) else runG n j
end
variable {b : Nat} {gs : List Gat}
theorem circ_snoc (j : Nat) : circ b gs (j + 1) = circ b gs j ++ gcls b gs j := by unfold circ; rw [List.range_succ, List.flatMap_append]; simp
theorem kids_snoc (j : Nat) : kids b gs (j + 1) = kids b gs j ++ [(kx b gs j, ky b gs j)] := by unfold kids; rw [List.range_succ, List.map_append]; rfl
theorem kids_len (j : Nat) : (kids b gs j).length = j := by unfold kids; simp
theorem kid_vr {w a : Nat} {neg : Bool} (hw : 0 < w) : kid w a neg ≠ 0 ∧ 1 ≤ vr (kid w a neg) ∧ vr (kid w a neg) ≤ w := by
  have := Nat.mod_lt a hw
  unfold kid vr
  cases neg
  · simp only [Bool.false_eq_true, if_false]; omega
  · simp only [if_true]; omega
theorem kid_lit {w a n : Nat} {neg : Bool} (hw : 0 < w) (hn : w ≤ n) : LitV n (kid w a neg) := by
  obtain ⟨h1, h2, h3⟩ := kid_vr (a := a) (neg := neg) hw
  unfold LitV; unfold vr at h2 h3; omega
theorem gcl_len (v : Nat) (x y : Int) (o : Bool) : (gcl v x y o).length ≤ 4 := by unfold gcl; cases o <;> simp
theorem circ_len (j : Nat) : (circ b gs j).length ≤ 4 * j := by
  induction j with
  | zero => exact Nat.zero_le _
  | succ j ih => rw [circ_snoc, List.length_append]; have := gcl_len (b + 1 + j) (kx b gs j) (ky b gs j) (gAt gs j).xor; unfold gcls; omega
theorem gcl_lit {n v : Nat} {x y : Int} {o : Bool} (hv : LitV n (v : Int)) (hx : LitV n x) (hy : LitV n y) : ∀ c ∈ gcl v x y o, (∀ l ∈ c, LitV n l) ∧ c.length ≤ 3 := by
  unfold gcl
  cases o
  · intro c hc
    simp only [Bool.false_eq_true, if_false, List.mem_cons, List.not_mem_nil, or_false] at hc
    rcases hc with rfl | rfl | rfl <;>
    · refine ⟨fun l hl => ?_, by simp⟩
      simp only [List.mem_cons, List.not_mem_nil, or_false] at hl
      unfold LitV at *
      omega
  · intro c hc
    simp only [if_true, List.mem_cons, List.not_mem_nil, or_false] at hc
    rcases hc with rfl | rfl | rfl | rfl <;>
    · refine ⟨fun l hl => ?_, by simp⟩
      simp only [List.mem_cons, List.not_mem_nil, or_false] at hl
      unfold LitV at *
      omega
theorem circ_lit (hb : 0 < b) {k : Nat} : ∀ j, j ≤ k → ∀ c ∈ circ b gs j, (∀ l ∈ c, LitV (b + k) l) ∧ c.length ≤ 3
  | 0, _, c, hc => by unfold circ at hc; simp at hc
  | j + 1, hj, c, hc => by
    rw [circ_snoc] at hc
    rcases List.mem_append.1 hc with hc | hc
    · exact circ_lit hb j (by omega) c hc
    · exact gcl_lit (by unfold LitV; omega) (kid_lit (by omega) (by omega)) (kid_lit (by omega) (by omega)) c hc
-- what the clauses say
def tb (β : Nat → Bool) (l : Int) : Bool := β (vr l) == decide (0 < l)
theorem tt_tb {β : Nat → Bool} {l : Int} (h : l ≠ 0) : TT β l ↔ tb β l = true := by
  unfold TT tb
  rw [beq_iff_eq]
  exact ⟨fun k => k.2, fun k => ⟨h, k⟩⟩
theorem tb_neg {β : Nat → Bool} {l : Int} (h : l ≠ 0) : tb β (-l) = !(tb β l) := by
  unfold tb
  have e : vr (-l) = vr l := by unfold vr; omega
  rw [e]
  rcases (by omega : 0 < l ∨ l < 0) with h1 | h1
  · rw [decide_eq_true h1, decide_eq_false (by omega)]
    cases β (vr l) <;> rfl
  · rw [decide_eq_true (by omega : 0 < -l), decide_eq_false (by omega : ¬ 0 < l)]
    cases β (vr l) <;> rfl
theorem tb_pos {β : Nat → Bool} {v : Nat} (h : 0 < v) : tb β (v : Int) = β v := by
  unfold tb
  have e : vr (v : Int) = v := by unfold vr; omega
  rw [e, decide_eq_true (by omega)]
  cases β v <;> rfl
theorem gcl_sat {β : Nat → Bool} {v : Nat} {x y : Int} {o : Bool} (hv : 0 < v) (hx : x ≠ 0) (hy : y ≠ 0) : SatC β (gcl v x y o) ↔ β v = (if o then (tb β x != tb β y) else (tb β x && tb β y)) := by
  have hv' : (v : Int) ≠ 0 := by omega
  have e1 : TT β (v : Int) ↔ β v = true := by rw [tt_tb hv', tb_pos hv]
  have e2 : TT β (-(v : Int)) ↔ β v = false := by rw [tt_tb (by omega), tb_neg hv', tb_pos hv, Bool.not_eq_true']
  have e3 := tt_tb (β := β) hx
  have e4 : TT β (-x) ↔ tb β x = false := by rw [tt_tb (by omega), tb_neg hx, Bool.not_eq_true']
  have e5 := tt_tb (β := β) hy
  have e6 : TT β (-y) ↔ tb β y = false := by rw [tt_tb (by omega), tb_neg hy, Bool.not_eq_true']
  unfold SatC gcl
  cases o
  · simp only [Bool.false_eq_true, if_false, List.mem_cons, List.not_mem_nil, or_false, forall_eq_or_imp, forall_eq, exists_eq_or_imp, exists_eq_left, e1, e2, e3, e4, e5, e6]
    cases β v <;> cases tb β x <;> cases tb β y <;> simp
  · simp only [if_true, List.mem_cons, List.not_mem_nil, or_false, forall_eq_or_imp, forall_eq, exists_eq_or_imp, exists_eq_left, e1, e2, e3, e4, e5, e6]
    cases β v <;> cases tb β x <;> cases tb β y <;> simp
theorem circ_sat {β : Nat → Bool} (hb : 0 < b) : ∀ j, SatC β (circ b gs j) ↔ ∀ i, i < j → β (b + 1 + i) = (if (gAt gs i).xor then (tb β (kx b gs i) != tb β (ky b gs i)) else (tb β (kx b gs i) && tb β (ky b gs i)))
  | 0 => ⟨fun _ i hi => absurd hi (Nat.not_lt_zero i), fun _ c hc => by unfold circ at hc; simp at hc⟩
  | j + 1 => by
    have h1 := gcl_sat (β := β) (v := b + 1 + j) (x := kx b gs j) (y := ky b gs j) (o := (gAt gs j).xor) (by omega) (kid_vr (by omega)).1 (kid_vr (by omega)).1
    have h2 : SatC β (circ b gs (j + 1)) ↔ SatC β (circ b gs j) ∧ SatC β (gcls b gs j) := by
      rw [circ_snoc]
      exact ⟨fun h => ⟨fun c hc => h c (List.mem_append_left _ hc), fun c hc => h c (List.mem_append_right _ hc)⟩, fun h c hc => (List.mem_append.1 hc).elim (h.1 c) (h.2 c)⟩
    rw [h2, circ_sat hb j]
    unfold gcls
    rw [h1]
    exact ⟨fun h i hi => (Nat.lt_succ_iff_lt_or_eq.1 hi).elim (h.1 i) fun e => by rw [e]; exact h.2, fun h => ⟨fun i hi => h i (Nat.lt_succ_of_lt hi), h j (Nat.lt_succ_self j)⟩⟩
-- what a run computes
theorem pow_bit (m i : Nat) : (2 ^ m).testBit i = decide (m = i) := Nat.testBit_two_pow
theorem run_bit (n : Nat) (hn : n < 2 ^ b) : ∀ j, runG b gs n j < 2 ^ (b + j) ∧ ∀ i, i < b + j → (runG b gs n (j + 1)).testBit i = (runG b gs n j).testBit i
  | 0 => ⟨hn, fun i hi => by
    have e : runG b gs n (0 + 1) = if outB b gs n 0 then n ||| 2 ^ (b + 0) else n := rfl
    have e0 : runG b gs n 0 = n := rfl
    rw [e, e0]
    split
    · rw [Nat.testBit_or, pow_bit, decide_eq_false (by omega), Bool.or_false]
    · rfl⟩
  | j + 1 => by
    have ih := (run_bit n hn j).1
    refine ⟨?_, fun i hi => ?_⟩
    · rw [runG]
      have hp : 2 ^ (b + j) < 2 ^ (b + (j + 1)) := Nat.pow_lt_pow_right (by decide) (by omega)
      split
      · exact Nat.or_lt_two_pow (by omega) hp
      · omega
    · rw [runG]
      split
      · rw [Nat.testBit_or, pow_bit, decide_eq_false (by omega), Bool.or_false]
      · rfl
theorem run_new (n : Nat) (hn : n < 2 ^ b) (j : Nat) : (runG b gs n (j + 1)).testBit (b + j) = outB b gs (runG b gs n j) j := by
  have h := (run_bit (gs := gs) n hn j).1
  have h0 : (runG b gs n j).testBit (b + j) = false := Nat.testBit_lt_two_pow h
  rw [runG]
  split
  · rename_i e
    rw [Nat.testBit_or, pow_bit, h0, decide_eq_true rfl, e]; rfl
  · rename_i e
    rw [h0]
    cases ho : outB b gs (runG b gs n j) j
    · rfl
    · exact absurd ho e
theorem run_low (n : Nat) (hn : n < 2 ^ b) {j : Nat} : ∀ d i, i < b + j → (runG b gs n (j + d)).testBit i = (runG b gs n j).testBit i
  | 0, i, hi => rfl
  | d + 1, i, hi => by
    rw [← run_low n hn d i hi]
    exact (run_bit n hn (j + d)).2 i (by omega)
/-- A run is an assignment that satisfies the circuit. -/
theorem run_sat (hb : 0 < b) (n : Nat) (hn : n < 2 ^ b) (k : Nat) : SatC (fun v => (runG b gs n k).testBit (v - 1)) (circ b gs k) := by
  rw [circ_sat hb]
  intro i hi
  have hk : k = i + (k - i) := by omega
  have hk1 : k = i + 1 + (k - (i + 1)) := by omega
  have e1 : (runG b gs n k).testBit (b + 1 + i - 1) = outB b gs (runG b gs n i) i := by
    rw [show b + 1 + i - 1 = b + i by omega, hk1, run_low n hn _ _ (by omega), run_new n hn]
  have e2 : ∀ {l : Int}, 1 ≤ vr l → vr l ≤ b + i → tb (fun v => (runG b gs n k).testBit (v - 1)) l = trueB (runG b gs n i) l := fun {l} h1 h2 => by
    unfold tb trueB
    simp only
    rw [hk, run_low n hn _ _ (by omega)]
  have hx := kid_vr (w := b + i) (a := (gAt gs i).a) (neg := (gAt gs i).na) (by omega)
  have hy := kid_vr (w := b + i) (a := (gAt gs i).b) (neg := (gAt gs i).nb) (by omega)
  rw [e1, e2 (l := kx b gs i) hx.2.1 hx.2.2, e2 (l := ky b gs i) hy.2.1 hy.2.2]
  rfl
/-- Each assignment that satisfies the circuit is a run. -/
theorem sat_run (hb : 0 < b) {β : Nat → Bool} (k : Nat) (h : SatC β (circ b gs k)) : ∃ n, n < 2 ^ b ∧ ∀ i, i < b + k → (runG b gs n k).testBit i = β (i + 1) := by
  rw [circ_sat hb] at h
  have hl : ((List.range b).map fun i => β (i + 1)).length = b := by simp
  have hn := bitsN_lt ((List.range b).map fun i => β (i + 1))
  rw [hl] at hn
  refine ⟨bitsN ((List.range b).map fun i => β (i + 1)), hn, ?_⟩
  have h0 : ∀ i, i < b → (bitsN ((List.range b).map fun i => β (i + 1))).testBit i = β (i + 1) := fun i hi => by
    rw [bitsN_bit, List.getD_eq_getElem?_getD, List.getElem?_map, List.getElem?_range hi]; rfl
  generalize bitsN ((List.range b).map fun i => β (i + 1)) = n at hn h0
  have : ∀ j, j ≤ k → ∀ i, i < b + j → (runG b gs n j).testBit i = β (i + 1) := by
    intro j
    induction j with
    | zero => exact fun _ i hi => h0 i (by omega)
    | succ j ih =>
      intro hj i hi
      have ih := ih (by omega)
      rcases Nat.lt_or_ge i (b + j) with hlt | hge
      · rw [(run_bit n hn j).2 i hlt]; exact ih i hlt
      · obtain rfl : i = b + j := by omega
        have e2 : ∀ {l : Int}, 1 ≤ vr l → vr l ≤ b + j → trueB (runG b gs n j) l = tb β l := fun {l} h1 h2 => by
          unfold tb trueB
          rw [ih _ (by omega), show vr l - 1 + 1 = vr l by omega]
        have hx := kid_vr (w := b + j) (a := (gAt gs j).a) (neg := (gAt gs j).na) (by omega)
        have hy := kid_vr (w := b + j) (a := (gAt gs j).b) (neg := (gAt gs j).nb) (by omega)
        rw [run_new n hn, show b + j + 1 = b + 1 + j by omega, h j (by omega)]
        unfold outB
        rw [e2 (l := kx b gs j) hx.2.1 hx.2.2, e2 (l := ky b gs j) hy.2.1 hy.2.2]
  exact this k (Nat.le_refl _)
theorem gates_iff (hb : 0 < b) {k : Nat} {more : List (List Int)} (hm : ∀ c ∈ more, ∀ l ∈ c, LitV (b + k) l) : SatA (circ b gs k ++ more) [] ↔ ∃ n, n < 2 ^ b ∧ satB (runG b gs n k) more = true := by
  have h0 : ∀ c ∈ more, ∀ l ∈ c, l ≠ 0 := fun c hc l hl => (hm c hc l hl).1
  constructor
  · rintro ⟨β, h, -⟩
    obtain ⟨n, hn, h2⟩ := sat_run hb k fun c hc => h c (List.mem_append_left _ hc)
    refine ⟨n, hn, ?_⟩
    unfold satB
    rw [List.all_eq_true]
    intro c hc
    obtain ⟨m, hmc, h3⟩ := h c (List.mem_append_right _ hc)
    refine List.any_eq_true.2 ⟨m, hmc, ?_⟩
    have hl := hm c hc m hmc
    unfold LitV at hl
    unfold trueB
    rw [h2 _ (by unfold vr; omega), show vr m - 1 + 1 = vr m by unfold vr; omega, beq_iff_eq]
    exact h3.2
  · rintro ⟨n, hn, h⟩
    refine ⟨fun v => (runG b gs n k).testBit (v - 1), fun c hc => ?_, fun l hl => by cases hl⟩
    rcases List.mem_append.1 hc with hc | hc
    · exact run_sat hb n hn k c hc
    · exact (satB_c h0 fun v _ => rfl).1 h c hc
end Go.Proofs.Ytnanofipjiclfaa
end PartQ32

section PartQ33
/- A circuit's inputs force its gates. -/
set_option linter.unusedSimpArgs false
set_option linter.unusedVariables false
set_option maxRecDepth 100000
namespace Go.Proofs.Ytnanofipjiclfaa
open Go Go.Ab
variable {b : Nat} {gs : List Gat} {S : Sv}

theorem quiet_cls {p : List Int} (ha : S.added.length ≤ 40000) (h : Quiet S p) {c : List Int} (hc : c ∈ S.cls) : (∃ m ∈ c, m ∈ p) ∨ (∃ m1 ∈ c, ∃ m2 ∈ c, m1 ≠ m2 ∧ -m1 ∉ p ∧ -m2 ∉ p) := by
  unfold Sv.cls at hc
  obtain ⟨k, hk, e⟩ := List.getElem_of_mem hc
  rw [List.length_map] at hk
  have h1 := h k (okId_add S ha hk)
  have e2 : (S.cl k).lits = c := by
    rw [cl_add S ha hk, List.getD_eq_getElem?_getD, List.getElem?_eq_getElem hk, ← e, List.getElem_map]
    rfl
  rw [e2] at h1
  exact h1
/-- One clause of a gate leaves its own variable alone. -/
theorem gcl_pick {p : List Int} {v : Nat} {x y : Int} {o : Bool} (hx : x ∈ p ∨ -x ∈ p) (hy : y ∈ p ∨ -y ∈ p) : ∃ c ∈ gcl v x y o, ∃ e, vr e = v ∧ ∀ m ∈ c, m = e ∨ -m ∈ p := by
  have v1 : vr (v : Int) = v := by unfold vr; omega
  have v2 : vr (-(v : Int)) = v := by unfold vr; omega
  have nn : ∀ z : Int, z ∈ p → -(-z) ∈ p := fun z h => by rw [Int.neg_neg]; exact h
  unfold gcl
  cases o
  · simp only [Bool.false_eq_true, if_false]
    rcases hx with hx | hx
    · rcases hy with hy | hy
      · exact ⟨[(v : Int), -x, -y], by simp, v, v1, fun m hm => by
          simp only [List.mem_cons, List.not_mem_nil, or_false] at hm
          rcases hm with rfl | rfl | rfl
          · exact .inl rfl
          · exact .inr (nn x hx)
          · exact .inr (nn y hy)⟩
      · exact ⟨[-(v : Int), y], by simp, -(v : Int), v2, fun m hm => by
          simp only [List.mem_cons, List.not_mem_nil, or_false] at hm
          rcases hm with rfl | rfl
          · exact .inl rfl
          · exact .inr hy⟩
    · exact ⟨[-(v : Int), x], by simp, -(v : Int), v2, fun m hm => by
        simp only [List.mem_cons, List.not_mem_nil, or_false] at hm
        rcases hm with rfl | rfl
        · exact .inl rfl
        · exact .inr hx⟩
  · simp only [if_true]
    rcases hx with hx | hx
    · rcases hy with hy | hy
      · exact ⟨[-(v : Int), -x, -y], by simp, -(v : Int), v2, fun m hm => by
          simp only [List.mem_cons, List.not_mem_nil, or_false] at hm
          rcases hm with rfl | rfl | rfl
          · exact .inl rfl
          · exact .inr (nn x hx)
          · exact .inr (nn y hy)⟩
      · exact ⟨[(v : Int), -x, y], by simp, v, v1, fun m hm => by
          simp only [List.mem_cons, List.not_mem_nil, or_false] at hm
          rcases hm with rfl | rfl | rfl
          · exact .inl rfl
          · exact .inr (nn x hx)
          · exact .inr hy⟩
    · rcases hy with hy | hy
      · exact ⟨[(v : Int), x, -y], by simp, v, v1, fun m hm => by
          simp only [List.mem_cons, List.not_mem_nil, or_false] at hm
          rcases hm with rfl | rfl | rfl
          · exact .inl rfl
          · exact .inr hx
          · exact .inr (nn y hy)⟩
      · exact ⟨[-(v : Int), x, y], by simp, -(v : Int), v2, fun m hm => by
          simp only [List.mem_cons, List.not_mem_nil, or_false] at hm
          rcases hm with rfl | rfl | rfl
          · exact .inl rfl
          · exact .inr hx
          · exact .inr hy⟩
theorem circ_mem {j k : Nat} (h : j < k) {c : List Int} (hc : c ∈ gcls b gs j) : c ∈ circ b gs k := by
  unfold circ
  exact List.mem_flatMap.2 ⟨j, List.mem_range.2 h, hc⟩
theorem has_var {p : List Int} {x : Int} (hx : x ≠ 0) (h : ∃ l ∈ p, vr l = vr x) : x ∈ p ∨ -x ∈ p := by
  obtain ⟨l, hl, e⟩ := h
  rcases (by unfold vr at e; omega : l = x ∨ l = -x) with rfl | rfl
  · exact .inl hl
  · exact .inr hl
theorem circ_inp (hb : 0 < b) {k : Nat} {more : List (List Int)} (ha : S.added.length ≤ 40000) (hv : S.vars = b + k) (hc : S.cls = circ b gs k ++ more) : Inp b S := by
  intro p h1 h2 h3 h4
  have key : ∀ j, j ≤ k → ∀ v, 1 ≤ v → v ≤ b + j → ∃ l ∈ p, vr l = v := by
    intro j
    induction j with
    | zero => exact fun _ v h5 h6 => h4 v h5 h6
    | succ j ih =>
      intro hj v h5 h6
      have ih := ih (by omega)
      rcases Nat.lt_or_ge v (b + j + 1) with hlt | hge
      · exact ih v h5 (by omega)
      · obtain rfl : v = b + 1 + j := by omega
        refine Classical.byContradiction fun hno => ?_
        have hx := kid_vr (w := b + j) (a := (gAt gs j).a) (neg := (gAt gs j).na) (by omega)
        have hy := kid_vr (w := b + j) (a := (gAt gs j).b) (neg := (gAt gs j).nb) (by omega)
        obtain ⟨c, hcm, e, he, hall⟩ := gcl_pick (p := p) (v := b + 1 + j) (x := kx b gs j) (y := ky b gs j) (o := (gAt gs j).xor) (has_var hx.1 (ih _ hx.2.1 hx.2.2)) (has_var hy.1 (ih _ hy.2.1 hy.2.2))
        have hin : c ∈ S.cls := by rw [hc]; exact List.mem_append_left _ (circ_mem (by omega) hcm)
        rcases quiet_cls ha h3 hin with ⟨m, hm, hmp⟩ | ⟨m1, hm1, m2, hm2, hne, g1, g2⟩
        · rcases hall m hm with rfl | hneg
          · exact hno ⟨m, hmp, he⟩
          · exact h2 m hmp hneg
        · rcases hall m1 hm1 with rfl | hneg
          · rcases hall m2 hm2 with rfl | hneg
            · exact hne rfl
            · exact g2 hneg
          · exact g1 hneg
  intro v h5 h6
  rw [hv] at h6
  exact key k (Nat.le_refl _) v h5 h6
end Go.Proofs.Ytnanofipjiclfaa
end PartQ33

section PartX6
/- SolverNames. -/
set_option linter.unusedSimpArgs false
set_option linter.unusedVariables false
set_option maxRecDepth 100000
namespace Go.Proofs.Ytnanofipjiclfaa
open Go Go.Ab
variable {I : Sl → Nat} {S : Sv} {σ : St}

theorem isD_cells (l : List (List Int)) : flat (l.map isD) = l.map fun c => A.d (isD c) := by
  induction l with
  | nil => rfl
  | cons x l ih => simp only [List.map_cons, flat_cons, ih]; rfl
theorem lies_cs (l : List (List Int)) : Lies (l.map fun c => A.d (isD c)) 1 0 (l.map isD) := by
  rw [← isD_cells]
  refine lies_of fun x hx => ?_
  obtain ⟨d, -, rfl⟩ := List.mem_map.1 hx
  refine ⟨rfl, fun y hy => ?_⟩
  simp only [isD, D.cells, List.mem_cons, List.not_mem_nil, or_false] at hy
  subst hy; rfl
end Go.Proofs.Ytnanofipjiclfaa
end PartX6

section PartX13
/- Pigeons' walk. -/
set_option linter.unusedSimpArgs false
set_option linter.unusedVariables false
set_option maxRecDepth 100000
namespace Go.Proofs.Ytnanofipjiclfaa
open Go Go.Ab
variable {I : Sl → Nat} {S : Sv} {σ : St}

end Go.Proofs.Ytnanofipjiclfaa
end PartX13

section PartX15
/- Circuit's walk. -/
set_option linter.unusedSimpArgs false
set_option linter.unusedVariables false
set_option maxRecDepth 100000
namespace Go.Proofs.Ytnanofipjiclfaa
open Go Go.Ab
variable {I : Sl → Nat} {S : Sv} {σ : St}

def gatD (g : Gat) : D := .agg [.bool g.xor, .bool g.na, .bool g.nb, .int .u8 g.a, .int .u8 g.b]
def gatsD (l : List Gat) : D := .sl 5 (l.map gatD)
def kidD (k : Int × Int) : D := .agg [iD k.1, iD k.2]
def kidsD (l : List (Int × Int)) : D := .sl 2 (l.map kidD)
def kidA (l : List (Int × Int)) : List A := l.flatMap fun k => [A.d (iD k.1), A.d (iD k.2)]
theorem kidA_len (l : List (Int × Int)) : (kidA l).length = l.length * 2 := by
  unfold kidA
  induction l with
  | nil => rfl
  | cons x l ih => rw [List.flatMap_cons, List.length_append, ih, List.length_cons]; simp; omega
theorem kidA_snoc (l : List (Int × Int)) (k : Int × Int) : kidA l ++ [A.d (iD k.1), A.d (iD k.2)] = kidA (l ++ [k]) := by unfold kidA; simp
theorem flat_kids (l : List (Int × Int)) : flat (l.map kidD) = kidA l := by
  induction l with
  | nil => rfl
  | cons x l ih => rw [List.map_cons, flat_cons, ih]; rfl
theorem lies_kids (l : List (Int × Int)) : Lies (kidA l) 2 0 (l.map kidD) := by
  rw [← flat_kids]
  refine lies_of fun x hx => ?_
  obtain ⟨k, -, rfl⟩ := List.mem_map.1 hx
  refine ⟨rfl, fun y hy => ?_⟩
  simp only [kidD, D.cells, List.mem_cons, List.not_mem_nil, or_false] at hy
  rcases hy with rfl | rfl <;> rfl
theorem ren_kids (n0 : Nat) (p : List Nat) (l : List (Int × Int)) : renL n0 p (kidA l) = kidA l := by
  unfold kidA
  induction l with
  | nil => rfl
  | cons x l ih => simp only [List.flatMap_cons, List.cons_append, List.nil_append, renL, A.ren, ih]
theorem frz_clz_app (id sz off : Nat) (xs : List D) (B : List (List Int)) (r : List A) : frzL id sz off xs (clzA B ++ r) = clzA B ++ frzL id sz off xs r := by
  unfold clzA
  induction B with
  | nil => rfl
  | cons x B ih => simp only [List.map_cons, List.cons_append, frzL, A.frz, ih]
set_option maxHeartbeats 8000000 in
theorem circuit_ac (b : Nat) (hb : 0 < b ∧ b ≤ 6) (gs : List Gat) (hg : gs.length ≤ 24) (hab : ∀ g ∈ gs, g.a ≤ 255 ∧ g.b ≤ 255) (σ : St) (G : Glob) (R : A → St → Prop) (h : R (.tup [.rs σ.length 1 0 (circ b gs gs.length).length (some 28), .d (kidsD (kids b gs gs.length))]) (σ ++ [some (.cells (clzA (circ b gs gs.length)))])) : AC Try.prog G 32 [dn b, .d (gatsD gs)] σ R := by
  unfold gatsD
  refine ac_enterC' [4, 5, 6, 8, 10, 11] mixed Try.func32 rfl Try.ntmps32 (by simp only [go_sem]) fun hbd => ?_
  simp only [List.length_cons, List.length_nil, Nat.reduceAdd, Nat.reduceSub, List.replicate_succ, List.replicate_zero, List.cons_append, List.nil_append]
  simp only [go_sem, List.length_map, Try.results32]
  refine aw_loop (fun m fr st => ∃ j : Nat, j ≤ gs.length ∧ m = gs.length - j ∧ fr = [dn b, .d (gatsD gs), .any, .any, .rs σ.length 1 0 (circ b gs j).length (some 28), .rs (σ.length + 1) 2 0 j (some 66), .any, .any, .any, .any, .any, .d (gatsD gs), dn gs.length, dn j, .any, .any, .any, .any, .any, .any, .any, .any, .any, .any, .any, .any, .any, .any, .any, .any, .any, .any, .any, .any, .any, .any, .any, .any, .any, .any, .any, .any, .any, .any, .any, .any, .any, .any, .any, .any, .any, .any, .any, .any, .any, .any, .any, .any, .any, .any, .any, .any, .any, .any, .any, .any, .any, .any, .any, .any, .any, .any, .any, .any, .any, .any, .any, .any, .any, .any, .any, .any, .any, .any, .any, .any, .any, .any, .any, .any, .any, .any, .any, .any, .any, .any, .any] ∧ st = σ ++ [some (.cells (clzA (circ b gs j))), some (.cells (kidA (kids b gs j)))]) gs.length _
    (Wk.via (((Weak.mask [0, 1, 4, 5, 11, 12, 13]).trans (Weak.empty 4 1 (some 28) rfl)).trans (Weak.empty 5 2 (some 66) rfl)) (Wk.mask [0, 1, 4, 5, 11, 12, 13] ⟨0, by omega, by omega, by rw [List.length_append]; rfl, by simp [circ, kids, clzA, kidA]⟩)) ?_
  rintro m fr st ⟨j, hj, hm, rfl, rfl⟩
  have hcl := circ_len (b := b) (gs := gs) j
  have hcs := circ_snoc (b := b) (gs := gs) j
  have hks := kids_snoc (b := b) (gs := gs) j
  have hkl := kids_len (b := b) (gs := gs) j
  rcases Nat.lt_or_ge j gs.length with hlt | hge
  · have hd : decide ((j : Int) < (gs.length : Int)) = true := by simp; omega
    have w2 := wrapS j (by omega)
    have g0 : List.getD (gs.map gatD) j default = gatD (gs.getD j gat0) := getD_mapD hlt
    have hgb := hab _ (getD_mem gat0 hlt)
    have hgA : gAt gs j = gs.getD j gat0 := rfl
    unfold gcls kx ky at hcs
    unfold kx ky at hks
    rw [hgA] at hcs hks
    generalize gs.getD j gat0 = g at g0 hgb hcs hks
    generalize circ b gs j = C at hcl hcs
    generalize kids b gs j = K at hkl hks
    unfold gatsD
    simp only [go_sem, List.length_map, hd, g0, w2, Try.results32]
    refine aw_cut (fun fr s => fr = [dn b, .d (gatsD gs), .any, .any, .rs σ.length 1 0 C.length (some 28), .rs (σ.length + 1) 2 0 j (some 66), dn j, .ea (gatD g) 0, .any, .any, .any, .d (gatsD gs), dn gs.length, dn j, .any, .any, .any, .any, .any, .any, .any, .any, .any, .any, .any, .any, .any, .any, .any, .any, .any, .any, .any, .any, .any, .any, .any, .any, .any, .any, .any, .any, .any, .any, .any, .any, .any, .any, .any, .any, .any, .any, .any, .any, .any, .any, .any, .any, .any, .any, .any, .any, .any, .any, .any, .any, .any, .any, .any, .any, .any, .any, .any, .any, .any, .any, .any, .any, .any, .any, .any, .any, .any, .any, .any, .any, .any, .any, .any, .any, .any, .any, .any, .any, .any, .any, .any] ∧ s = σ ++ [some (.cells (clzA C)), some (.cells (kidA K)), none]) ?_ ?_
    · simp only [go_sem, List.length_map, hd, g0, w2, gatD, Try.results32]
      refine ⟨⟨by omega, by omega⟩, Wk.via ((Weak.mask [0, 1, 4, 5, 6, 7, 11, 12, 13]).trans (Weak.freezeRef (σ.length + 2) [.bool g.xor, .bool g.na, .bool g.nb, .int .u8 g.a, .int .u8 g.b] (by rw [List.getElem?_append_right (by omega), Nat.add_sub_cancel_left]; rfl) (by intro d hd; simp only [List.mem_cons, List.not_mem_nil, or_false] at hd; rcases hd with rfl | rfl | rfl | rfl | rfl <;> rfl))) (Wk.mask [0, 1, 4, 5, 6, 7, 11, 12, 13] ⟨?_, by rw [set_app]; rfl⟩)⟩
      simp [maskN, refA, gatsD, gatD]
    rintro fr s ⟨rfl, rfl⟩
    have hbj : 0 < b + j := by omega
    have hma := Nat.mod_lt g.a hbj
    have hmb := Nat.mod_lt g.b hbj
    have wa : IntKind.i64.wrap (g.a : Int) = (g.a : Int) := wrap64_id _ (by omega) (by omega)
    have wb : IntKind.i64.wrap (g.b : Int) = (g.b : Int) := wrap64_id _ (by omega) (by omega)
    have v1 := wrapS b (by omega)
    have v2 : IntKind.i64.wrap (((b + 1 : Nat) : Int) + (j : Int)) = ((b + 1 + j : Nat) : Int) := by rw [wrap64_id _ (by omega) (by omega)]; omega
    have v3 : IntKind.i64.wrap (((b + 1 + j : Nat) : Int) - 1) = ((b + j : Nat) : Int) := by rw [wrap64_id _ (by omega) (by omega)]; omega
    have r1 : Int.tmod (g.a : Int) ((b + j : Nat) : Int) = ((g.a % (b + j) : Nat) : Int) := rfl
    have r2 : Int.tmod (g.b : Int) ((b + j : Nat) : Int) = ((g.b % (b + j) : Nat) : Int) := rfl
    have v4 := wrapS (g.a % (b + j)) (by omega)
    have v5 := wrapS (g.b % (b + j)) (by omega)
    simp only [go_sem, v1, v2, Try.results32]
    refine aw_cut (fun fr s => fr = [dn b, .d (gatsD gs), .any, .any, .rs σ.length 1 0 C.length (some 28), .rs (σ.length + 1) 2 0 j (some 66), dn j, .ea (gatD g) 0, dn (b + 1 + j), .any, .any, .d (gatsD gs), dn gs.length, dn j, .any, .any, .any, .any, .any, .any, .any, .any, .any, .any, .any, .any, .any, .any, .any, .any, .any, .any, .any, .any, .any, .any, .any, .any, .any, .any, .any, .any, .any, .any, .any, .any, .any, .any, .any, .any, .any, .any, .any, .any, .any, .any, .any, .any, .any, .any, .any, .any, .any, .any, .any, .any, .any, .any, .any, .any, .any, .any, .any, .any, .any, .any, .any, .any, .any, .any, .any, .any, .any, .any, .any, .any, .any, .any, .any, .any, .any, .any, .any, .any, .any, .any, .any] ∧ s = σ ++ [some (.cells (clzA C)), some (.cells (kidA K)), none]) ?_ ?_
    · simp only [go_sem, v1, v2, Try.results32]
      exact Wk.mask [0, 1, 4, 5, 6, 7, 8, 11, 12, 13] ⟨rfl, rfl⟩
    rintro fr s ⟨rfl, rfl⟩
    simp only [go_sem, Try.results32]
    refine aw_cut (fun fr s => fr = [dn b, .d (gatsD gs), .any, .any, .rs σ.length 1 0 C.length (some 28), .rs (σ.length + 1) 2 0 j (some 66), dn j, .ea (gatD g) 0, dn (b + 1 + j), dn (g.a % (b + j) + 1), dn (g.b % (b + j) + 1), .d (gatsD gs), dn gs.length, dn j, .any, .any, .any, .any, .any, .any, .any, .any, .any, .any, .any, .any, .any, .any, .any, .any, .any, .any, .any, .any, .any, .any, .any, .any, .any, .any, .any, .any, .any, .any, .any, .any, .any, .any, .any, .any, .any, .any, .any, .any, .any, .any, .any, .any, .any, .any, .any, .any, .any, .any, .any, .any, .any, .any, .any, .any, .any, .any, .any, .any, .any, .any, .any, .any, .any, .any, .any, .any, .any, .any, .any, .any, .any, .any, .any, .any, .any, .any, .any, .any, .any, .any, .any] ∧ s = σ ++ [some (.cells (clzA C)), some (.cells (kidA K)), none]) ?_ ?_
    · refine aw_plan (.tk 16 0 <| .done) (by kernel_rfl) ?_
      simp only [go_sem, gatD, wa, wb, v1, v2, v3, r1, r2, v4, v5, Try.results32]
      exact ⟨by omega, by omega, Wk.mask [0, 1, 4, 5, 6, 7, 8, 9, 10, 11, 12, 13] ⟨rfl, rfl⟩⟩
    rintro fr s ⟨rfl, rfl⟩
    have hxv := kid_lit (a := g.a) (n := 100) (neg := g.na) hbj (by omega)
    have hyv := kid_lit (a := g.b) (n := 100) (neg := g.nb) hbj (by omega)
    have wna : IntKind.i64.wrap (0 - ((g.a % (b + j) + 1 : Nat) : Int)) = -((g.a % (b + j) + 1 : Nat) : Int) := by rw [wrap64_id _ (by omega) (by omega)]; omega
    have wnb : IntKind.i64.wrap (0 - ((g.b % (b + j) + 1 : Nat) : Int)) = -((g.b % (b + j) + 1 : Nat) : Int) := by rw [wrap64_id _ (by omega) (by omega)]; omega
    simp only [go_sem, Try.results32]
    refine aw_cut (fun fr s => fr = [dn b, .d (gatsD gs), .any, .any, .rs σ.length 1 0 C.length (some 28), .rs (σ.length + 1) 2 0 j (some 66), dn j, .ea (gatD g) 0, dn (b + 1 + j), di (kid (b + j) g.a g.na), dn (g.b % (b + j) + 1), .d (gatsD gs), dn gs.length, dn j, .any, .any, .any, .any, .any, .any, .any, .any, .any, .any, .any, .any, .any, .any, .any, .any, .any, .any, .any, .any, .any, .any, .any, .any, .any, .any, .any, .any, .any, .any, .any, .any, .any, .any, .any, .any, .any, .any, .any, .any, .any, .any, .any, .any, .any, .any, .any, .any, .any, .any, .any, .any, .any, .any, .any, .any, .any, .any, .any, .any, .any, .any, .any, .any, .any, .any, .any, .any, .any, .any, .any, .any, .any, .any, .any, .any, .any, .any, .any, .any, .any, .any, .any] ∧ s = σ ++ [some (.cells (clzA C)), some (.cells (kidA K)), none]) ?_ ?_
    · cases hna : g.na with
      | true =>
        simp only [go_sem, gatD, hna, wna, Try.results32]
        exact Wk.mask [0, 1, 4, 5, 6, 7, 8, 9, 10, 11, 12, 13] ⟨rfl, rfl⟩
      | false =>
        simp only [go_sem, gatD, hna, wna, Try.results32]
        exact Wk.mask [0, 1, 4, 5, 6, 7, 8, 9, 10, 11, 12, 13] ⟨rfl, rfl⟩
    rintro fr s ⟨rfl, rfl⟩
    simp only [go_sem, Try.results32]
    refine aw_cut (fun fr s => fr = [dn b, .d (gatsD gs), .any, .any, .rs σ.length 1 0 C.length (some 28), .rs (σ.length + 1) 2 0 j (some 66), dn j, .ea (gatD g) 0, dn (b + 1 + j), di (kid (b + j) g.a g.na), di (kid (b + j) g.b g.nb), .d (gatsD gs), dn gs.length, dn j, .any, .any, .any, .any, .any, .any, .any, .any, .any, .any, .any, .any, .any, .any, .any, .any, .any, .any, .any, .any, .any, .any, .any, .any, .any, .any, .any, .any, .any, .any, .any, .any, .any, .any, .any, .any, .any, .any, .any, .any, .any, .any, .any, .any, .any, .any, .any, .any, .any, .any, .any, .any, .any, .any, .any, .any, .any, .any, .any, .any, .any, .any, .any, .any, .any, .any, .any, .any, .any, .any, .any, .any, .any, .any, .any, .any, .any, .any, .any, .any, .any, .any, .any] ∧ s = σ ++ [some (.cells (clzA C)), some (.cells (kidA K)), none]) ?_ ?_
    · cases hnb : g.nb with
      | true =>
        simp only [go_sem, gatD, hnb, wnb, Try.results32]
        exact Wk.mask [0, 1, 4, 5, 6, 7, 8, 9, 10, 11, 12, 13] ⟨rfl, rfl⟩
      | false =>
        simp only [go_sem, gatD, hnb, wnb, Try.results32]
        exact Wk.mask [0, 1, 4, 5, 6, 7, 8, 9, 10, 11, 12, 13] ⟨rfl, rfl⟩
    rintro fr s ⟨rfl, rfl⟩
    generalize kid (b + j) g.a g.na = x at hxv hcs hks
    generalize kid (b + j) g.b g.nb = y at hyv hcs hks
    simp only [go_sem, Try.results32]
    refine aw_cut (fun fr s => fr = [dn b, .d (gatsD gs), .any, .any, .rs σ.length 1 0 C.length (some 28), .rs (σ.length + 1) 2 0 (j + 1) (some 66), .any, .ea (gatD g) 0, dn (b + 1 + j), di x, di y, .d (gatsD gs), dn gs.length, dn j, .any, .any, .any, .any, .any, .any, .any, .any, .any, .any, .any, .any, .any, .any, .any, .any, .any, .any, .any, .any, .any, .any, .any, .any, .any, .any, .any, .any, .any, .any, .any, .any, .any, .any, .any, .any, .any, .any, .any, .any, .any, .any, .any, .any, .any, .any, .any, .any, .any, .any, .any, .any, .any, .any, .any, .any, .any, .any, .any, .any, .any, .any, .any, .any, .any, .any, .any, .any, .any, .any, .any, .any, .any, .any, .any, .any, .any, .any, .any, .any, .any, .any, .any] ∧ s = σ ++ [some (.cells (clzA C)), some (.cells (kidA (K ++ [(x, y)])))]) ?_ ?_
    · simp only [go_sem, Try.results32]
      refine ⟨⟨by rw [kidA_len, hkl], by simp only [maxLen]; omega, by omega⟩, Wk.keep [0, 1, 4, 5, 7, 8, 9, 10, 11, 12, 13] [0, 4] (by decide) (Nat.le_refl _) hbd ⟨?_, ?_⟩⟩
      · simp only [go_sem]
      · have e : kidA K ++ [A.d (D.int .i64 x), A.d (D.int .i64 y)] = kidA (K ++ [(x, y)]) := kidA_snoc K (x, y)
        simp only [go_sem, e, ren_cls, ren_kids]
    rintro fr s ⟨rfl, rfl⟩
    unfold LitV at hxv hyv
    have nv : IntKind.i64.wrap (0 - ((b + 1 + j : Nat) : Int)) = -((b + 1 + j : Nat) : Int) := by rw [wrap64_id _ (by omega) (by omega)]; omega
    have nx : IntKind.i64.wrap (0 - x) = -x := by rw [wrap64_id _ (by omega) (by omega)]; omega
    have ny : IntKind.i64.wrap (0 - y) = -y := by rw [wrap64_id _ (by omega) (by omega)]; omega
    cases ho : g.xor with
    | true =>
      simp only [go_sem, gatD, ho, nv, nx, ny, w2, Try.results32]
      have hcs' : circ b gs (j + 1) = C ++ [[-((b + 1 + j : Nat) : Int), x, y], [-((b + 1 + j : Nat) : Int), -x, -y], [((b + 1 + j : Nat) : Int), -x, y], [((b + 1 + j : Nat) : Int), x, -y]] := by rw [hcs, ho]; rfl
      have hcn : (circ b gs (j + 1)).length = C.length + 4 := by rw [hcs', List.length_append]; rfl
      have e : frzL (σ.length + 5) 1 0 (([((b + 1 + j : Nat) : Int), x, -y] : List Int).map iD) (frzL (σ.length + 4) 1 0 (([((b + 1 + j : Nat) : Int), -x, y] : List Int).map iD) (frzL (σ.length + 3) 1 0 (([-((b + 1 + j : Nat) : Int), -x, -y] : List Int).map iD) (frzL (σ.length + 2) 1 0 (([-((b + 1 + j : Nat) : Int), x, y] : List Int).map iD) ((clzA C ++ [A.rs (σ.length + 2) 1 0 3 (some 3), A.rs (σ.length + 3) 1 0 3 (some 3), A.rs (σ.length + 4) 1 0 3 (some 3), A.rs (σ.length + 5) 1 0 3 (some 3)]))))) = clzA (circ b gs (j + 1)) := by
        rw [hcs']
        simp only [frz_clz_app]
        simp [frzL, A.frz, clzA, isD]
      refine ⟨⟨by rw [clzA_len]; omega, by simp only [maxLen]; omega, by omega⟩, Wk.via (((((Weak.mask [0, 1, 4, 5, 11, 12, 13]).trans (Weak.freezeIn 2 7 1 0 (([-((b + 1 + j : Nat) : Int), x, y] : List Int).map iD) rfl (lies_ints [-((b + 1 + j : Nat) : Int), x, y]) rfl (by decide))).trans (Weak.freezeIn 3 7 1 0 (([-((b + 1 + j : Nat) : Int), -x, -y] : List Int).map iD) rfl (lies_ints [-((b + 1 + j : Nat) : Int), -x, -y]) rfl (by decide))).trans (Weak.freezeIn 4 7 1 0 (([((b + 1 + j : Nat) : Int), -x, y] : List Int).map iD) rfl (lies_ints [((b + 1 + j : Nat) : Int), -x, y]) rfl (by decide))).trans (Weak.freezeIn 5 7 1 0 (([((b + 1 + j : Nat) : Int), x, -y] : List Int).map iD) rfl (lies_ints [((b + 1 + j : Nat) : Int), x, -y]) rfl (by decide))) (Wk.keep [0, 1, 4, 5, 11, 12, 13] [7, 1] (by decide) (Nat.le_refl _) hbd ⟨gs.length - (j + 1), by omega, j + 1, hlt, rfl, ?_, ?_⟩)⟩
      · rw [hcn]
        simp only [go_sem, maskN, gatsD, false_and, and_false, if_false]
      · rw [hks]
        simp only [List.map_cons, List.map_nil] at e
        simp only [go_sem, e, ren_cls, ren_kids]
    | false =>
      simp only [go_sem, gatD, ho, nv, nx, ny, w2, Try.results32]
      have hcs' : circ b gs (j + 1) = C ++ [[-((b + 1 + j : Nat) : Int), x], [-((b + 1 + j : Nat) : Int), y], [((b + 1 + j : Nat) : Int), -x, -y]] := by rw [hcs, ho]; rfl
      have hcn : (circ b gs (j + 1)).length = C.length + 3 := by rw [hcs', List.length_append]; rfl
      have e : frzL (σ.length + 4) 1 0 (([((b + 1 + j : Nat) : Int), -x, -y] : List Int).map iD) (frzL (σ.length + 3) 1 0 (([-((b + 1 + j : Nat) : Int), y] : List Int).map iD) (frzL (σ.length + 2) 1 0 (([-((b + 1 + j : Nat) : Int), x] : List Int).map iD) ((clzA C ++ [A.rs (σ.length + 2) 1 0 2 (some 3), A.rs (σ.length + 3) 1 0 2 (some 3), A.rs (σ.length + 4) 1 0 3 (some 3)])))) = clzA (circ b gs (j + 1)) := by
        rw [hcs']
        simp only [frz_clz_app]
        simp [frzL, A.frz, clzA, isD]
      refine ⟨⟨by rw [clzA_len]; omega, by simp only [maxLen]; omega, by omega⟩, Wk.via ((((Weak.mask [0, 1, 4, 5, 11, 12, 13]).trans (Weak.freezeIn 2 6 1 0 (([-((b + 1 + j : Nat) : Int), x] : List Int).map iD) rfl (lies_ints [-((b + 1 + j : Nat) : Int), x]) rfl (by decide))).trans (Weak.freezeIn 3 6 1 0 (([-((b + 1 + j : Nat) : Int), y] : List Int).map iD) rfl (lies_ints [-((b + 1 + j : Nat) : Int), y]) rfl (by decide))).trans (Weak.freezeIn 4 6 1 0 (([((b + 1 + j : Nat) : Int), -x, -y] : List Int).map iD) rfl (lies_ints [((b + 1 + j : Nat) : Int), -x, -y]) rfl (by decide))) (Wk.keep [0, 1, 4, 5, 11, 12, 13] [6, 1] (by decide) (Nat.le_refl _) hbd ⟨gs.length - (j + 1), by omega, j + 1, hlt, rfl, ?_, ?_⟩)⟩
      · rw [hcn]
        simp only [go_sem, maskN, gatsD, false_and, and_false, if_false]
      · rw [hks]
        simp only [List.map_cons, List.map_nil] at e
        simp only [go_sem, e, ren_cls, ren_kids]
  · have hd : decide ((j : Int) < (gs.length : Int)) = false := by simp; omega
    have hjg : j = gs.length := by omega
    subst hjg
    unfold gatsD
    simp only [go_sem, List.length_map, hd, Try.results32]
    refine ret_frz 1 2 0 ((kids b gs gs.length).map kidD) rfl (lies_kids _) ?_
    refine ret_keep [0] (by decide) hbd ?_
    simp only [go_sem, List.length_map, hkl, if_true, false_and, and_false, if_false, ren_cls]
    exact h
end Go.Proofs.Ytnanofipjiclfaa
end PartX15

section PartX14
/- SolverPigeons. -/
set_option linter.unusedSimpArgs false
set_option linter.unusedVariables false
set_option maxRecDepth 100000
namespace Go.Proofs.Ytnanofipjiclfaa
open Go Go.Ab
variable {I : Sl → Nat} {S : Sv} {σ : St}

end Go.Proofs.Ytnanofipjiclfaa
end PartX14

section PartX16
/- SolverGates. -/
set_option linter.unusedSimpArgs false
set_option linter.unusedVariables false
set_option maxRecDepth 100000
namespace Go.Proofs.Ytnanofipjiclfaa
open Go Go.Ab
variable {I : Sl → Nat} {S : Sv} {σ : St}

def bOr (ik : IntKind) (a b : Int) : Int := ik.wrap ((BitVec.ofInt ik.bits a ||| BitVec.ofInt ik.bits b).toNat : Int)
section
variable {P : Program} {t : TypeId} {k : Prop → A → Prop} {a b : Int} {ik jk : IntKind}
@[go_sem high, go_sem ↓ high] theorem rdBin_orB : rdBin P .or t k (.d (.int ik a)) (.d (.int ik b)) = k True (.d (.int ik (bOr ik a b))) := by simp only [rdBin, rdArith, if_true]; rfl
end
theorem or64 {x y : Nat} (hx : x ≤ 1000000000000) (hy : y ≤ 1000000000000) : bOr .i64 (x : Int) (y : Int) = ((x ||| y : Nat) : Int) := by
  have hxy : x ||| y < 2 ^ 40 := Nat.or_lt_two_pow (by omega) (by omega)
  have h40 : (2 : Nat) ^ 40 = 1099511627776 := by decide
  unfold bOr
  have h1 : (BitVec.ofInt IntKind.i64.bits (x : Int) ||| BitVec.ofInt IntKind.i64.bits (y : Int)).toNat = x ||| y := by
    rw [BitVec.toNat_or]
    have h2 : ∀ z : Nat, z ≤ 1000000000000 → (BitVec.ofInt IntKind.i64.bits (z : Int)).toNat = z := fun z hz => by
      simp only [IntKind.bits, BitVec.toNat_ofInt]
      omega
    rw [h2 x hx, h2 y hy]
  rw [h1]
  exact wrap64_id _ (by omega) (by omega)
/-- What a run over the inputs wants. -/
def wantB (b : Nat) (gs : List Gat) (more : List (List Int)) (m : Nat) : Bool := (List.range m).any fun n => satB (runG b gs n gs.length) more
theorem wantB_snoc (b : Nat) (gs : List Gat) (more : List (List Int)) (m : Nat) : wantB b gs more (m + 1) = (wantB b gs more m || satB (runG b gs m gs.length) more) := by
  unfold wantB
  rw [List.range_succ, List.any_append, List.any_cons]
  simp
theorem wantB_iff {b : Nat} {gs : List Gat} {more : List (List Int)} (hb : 0 < b) (hm : ∀ c ∈ more, ∀ l ∈ c, LitV (b + gs.length) l) : SatA (circ b gs gs.length ++ more) [] ↔ wantB b gs more (2 ^ b) = true := by
  rw [gates_iff hb hm]
  unfold wantB
  rw [List.any_eq_true]
  exact ⟨fun ⟨n, h1, h2⟩ => ⟨n, List.mem_range.2 h1, h2⟩, fun ⟨n, h1, h2⟩ => ⟨n, List.mem_range.1 h1, h2⟩⟩
set_option maxHeartbeats 8000000 in
theorem law8_ac (inp : Nat) (hinp : inp ≤ 255) (gs : List Gat) (hgl : gs.length ≤ 1000000000000000) (hab : ∀ g ∈ gs, g.a ≤ 255 ∧ g.b ≤ 255) (more : List (List Int)) (hml : more.length ≤ 1000000000000000) (hmc : ∀ c ∈ more, c.length ≤ 1000000000000000) (σ : St) (G : Glob) (R : A → St → Prop) (h : ∀ s, R (db true) s) : AC Try.prog G 8 [.d (.int .u8 inp), .d (gatsD gs), .d (csD more)] σ R := by
  refine ac_enterC' [3, 5, 7, 8, 15, 16, 17, 31, 33, 22, 29, 25, 26] mixed Try.func8 rfl Try.ntmps8 (by simp only [go_sem]) fun hbd => ?_
  simp only [List.length_cons, List.length_nil, Nat.reduceAdd, Nat.reduceSub, List.replicate_succ, List.replicate_zero, List.cons_append, List.nil_append]
  simp only [go_sem, Try.results8]
  refine aw_cut (fun fr st => fr = [.d (.int .u8 inp), .d (gatsD gs), .d (csD more), .any, .any, .any, .any, .any, .any, .any, .any, .any, .any, .any, .any, .any, .any, .any, .any, .any, .any, .any, .any, .any, .any, .any, .any, .any, .any, .any, .any, .any, .any, .any, .any, .any, .any, .any, .any, .any, .any, .any, .any, .any, .any, .any, .any, .any, .any, .any, .any, .any, .any, .any, .any, .any, .any, .any, .any, .any, .any, .any, .any, .any, .any, .any, .any, .any, .any, .any, .any, .any, .any, .any, .any, .any, .any, .any, .any, .any, .any, .any, .any, .any, .any, .any, .any, .any, .any, .any, .any, .any, .any, .any, .any, .any, .any, .any, .any, .any, .any, .any, .any, .any, .any, .any, .any, .any, .any, .any, .any, .any, .any, .any, .any, .any, .any, .any, .any, .any, .any, .any, .any, .any, .any, .any, .any, .any, .any, .any, .any, .any, .any, .any, .any, .any, .any, .any, .any, .any, .any, .any, .any, .any, .any, .any, .any, .any, .any, .any, .any, .any, .any, .any, .any, .any, .any, .any, .any, .any, .any, .any, .any, .any, .any, .any, .any, .any, .any, .any, .any, .any, .any, .any, .any, .any, .any, .any, .any, .any, .any] ∧ st = σ) ?_ ?_
  · simp only [go_sem, Try.results8]
    refine ac' (head_ac _ _ _ ?_)
    simp only [go_sem, Try.results8]
    exact Wk.mask [0, 1, 2] ⟨rfl, rfl⟩
  rintro fr st ⟨rfl, rfl⟩
  have hout : ∀ s : St, ∃ r σ', Weak G st.length [db true] s [r] σ' ∧ R r σ' := fun s => ⟨_, _, Weak.refl _ _ _ _, h _⟩
  have hmod := Nat.mod_lt inp (show 0 < 6 by decide)
  obtain ⟨b, hb⟩ : ∃ b, 1 + inp % 6 = b := ⟨_, rfl⟩
  have wi : IntKind.i64.wrap (inp : Int) = (inp : Int) := wrap64_id _ (by omega) (by omega)
  have r6 : Int.tmod (inp : Int) 6 = ((inp % 6 : Nat) : Int) := rfl
  have wb : IntKind.i64.wrap (1 + ((inp % 6 : Nat) : Int)) = (b : Int) := by rw [wrap64_id _ (by omega) (by omega)]; omega
  have wV : IntKind.i64.wrap ((b : Int) + (gs.length : Int)) = ((b + gs.length : Nat) : Int) := by rw [wrap64_id _ (by omega) (by omega)]; omega
  unfold gatsD
  simp only [go_sem, List.length_map, wi, r6, wb, wV, Try.results8]
  refine ⟨by omega, ?_⟩
  obtain ⟨V, hV⟩ : ∃ V, b + gs.length = V := ⟨_, rfl⟩
  rw [hV] at wV
  refine aw_cut (fun fr s => fr = [.any, .d (gatsD gs), .d (csD more), .any, .any, .any, .any, dn b, dn V, .any, .any, .any, .any, .any, .any, .any, .any, .any, .any, .any, .any, .any, .any, .any, .any, .any, .any, .any, .any, .any, .any, .any, .any, .any, .any, .any, .any, .any, .any, .any, .any, .any, .any, .any, .any, .any, .any, .any, .any, .any, .any, .any, .any, .any, .any, .any, .any, .any, .any, .any, .any, .any, .any, .any, .any, .any, .any, .any, .any, .any, .any, .any, .any, .any, .any, .any, .any, .any, .any, .any, .any, .any, .any, .any, .any, .any, .any, .any, .any, .any, .any, .any, .any, .any, .any, .any, .any, .any, .any, .any, .any, .any, .any, .any, .any, .any, .any, .any, .any, .any, .any, .any, .any, .any, .any, .any, .any, .any, .any, .any, .any, .any, .any, .any, .any, .any, .any, .any, .any, .any, .any, .any, .any, .any, .any, .any, .any, .any, .any, .any, .any, .any, .any, .any, .any, .any, .any, .any, .any, .any, .any, .any, .any, .any, .any, .any, .any, .any, .any, .any, .any, .any, .any, .any, .any, .any, .any, .any, .any, .any, .any, .any, .any, .any, .any, .any, .any, .any, .any, .any, .any] ∧ s = st) ?_ ?_
  · simp only [go_sem, List.length_map, wV, Try.results8]
    exact Wk.mask [1, 2, 7, 8] ⟨rfl, rfl⟩
  rintro fr s ⟨rfl, rfl⟩
  unfold gatsD csD
  simp only [go_sem, List.length_map, Try.results8]
  refine aw_cut (fun fr s1 => gs.length ≤ 24 ∧ more.length ≤ 20 ∧ fr = [.any, .d (gatsD gs), .d (csD more), .any, .any, .any, .any, dn b, dn V, .any, .any, .any, .any, .any, .any, .any, .any, .any, .any, .any, .any, .any, .any, .any, .any, .any, .any, .any, .any, .any, .any, .any, .any, .any, .any, .any, .any, .any, .any, .any, .any, .any, .any, .any, .any, .any, .any, .any, .any, .any, .any, .any, .any, .any, .any, .any, .any, .any, .any, .any, .any, .any, .any, .any, .any, .any, .any, .any, .any, .any, .any, .any, .any, .any, .any, .any, .any, .any, .any, .any, .any, .any, .any, .any, .any, .any, .any, .any, .any, .any, .any, .any, .any, .any, .any, .any, .any, .any, .any, .any, .any, .any, .any, .any, .any, .any, .any, .any, .any, .any, .any, .any, .any, .any, .any, .any, .any, .any, .any, .any, .any, .any, .any, .any, .any, .any, .any, .any, .any, .any, .any, .any, .any, .any, .any, .any, .any, .any, .any, .any, .any, .any, .any, .any, .any, .any, .any, .any, .any, .any, .any, .any, .any, .any, .any, .any, .any, .any, .any, .any, .any, .any, .any, .any, .any, .any, .any, .any, .any, .any, .any, .any, .any, .any, .any, .any, .any, .any, .any, .any, .any] ∧ s1 = s) ?_ ?_
  · simp only [go_sem, List.length_map, Try.results8]
    refine ⟨fun e => hout _, fun e => ?_⟩
    simp only [Bool.or_eq_false_iff, decide_eq_false_iff_not] at e
    exact Wk.mask [1, 2, 7, 8] ⟨by omega, by omega, rfl, rfl⟩
  rintro fr s1 ⟨hg24, hm20, rfl, rfl⟩
  have hb0 : 0 < b ∧ b ≤ 6 := by omega
  have hcl := circ_len (b := b) (gs := gs) gs.length
  have hclit := circ_lit (b := b) (gs := gs) hb0.1 (k := gs.length) gs.length (Nat.le_refl _)
  have hwant := wantB_iff (b := b) (gs := gs) (more := more) hb0.1
  have hinpS := fun S => circ_inp (b := b) (gs := gs) (S := S) hb0.1 (k := gs.length) (more := more)
  rw [hV] at hclit hwant hinpS
  simp only [go_sem, Try.results8]
  refine aw_cut (fun fr s => fr = [.any, .d (gatsD gs), .d (csD more), .any, .any, .any, .any, dn b, dn V, .rs s1.length 1 0 (circ b gs gs.length).length (some 28), .d (kidsD (kids b gs gs.length)), .any, .any, .any, .any, .any, .any, .any, .any, .any, .any, .any, .any, .any, .any, .any, .any, .any, .any, .any, .any, .any, .any, .any, .any, .any, .any, .any, .any, .any, .any, .any, .any, .any, .any, .any, .any, .any, .any, .any, .any, .any, .any, .any, .any, .any, .any, .any, .any, .any, .any, .any, .any, .any, .any, .any, .any, .any, .any, .any, .any, .any, .any, .any, .any, .any, .any, .any, .any, .any, .any, .any, .any, .any, .any, .any, .any, .any, .any, .any, .any, .any, .any, .any, .any, .any, .any, .any, .any, .any, .any, .any, .any, .any, .any, .any, .any, .any, .any, .any, .any, .any, .any, .any, .any, .any, .any, .any, .any, .any, .any, .any, .any, .any, .any, .any, .any, .any, .any, .any, .any, .any, .any, .any, .any, .any, .any, .any, .any, .any, .any, .any, .any, .any, .any, .any, .any, .any, .any, .any, .any, .any, .any, .any, .any, .any, .any, .any, .any, .any, .any, .any, .any, .any, .any, .any, .any, .any, .any, .any, .any, .any, .any, .any, .any, .any, .any, .any, .any, .any, .any] ∧ s = s1 ++ [some (.cells (clzA (circ b gs gs.length)))]) ?_ ?_
  · simp only [go_sem, Try.results8]
    refine ac' (circuit_ac b hb0 gs hg24 hab _ _ _ ?_)
    simp only [go_sem, Try.results8]
    exact Wk.mask [1, 2, 7, 8, 9, 10] ⟨rfl, rfl⟩
  generalize circ b gs gs.length = C0 at hcl hclit hwant hinpS
  rintro fr s ⟨rfl, rfl⟩
  simp only [go_sem, Try.results8]
  refine aw_cut (fun fr s => (∀ c ∈ more, (∀ l ∈ c, LitV V l) ∧ c.length ≤ 20) ∧ fr = [.any, .d (gatsD gs), .d (csD more), .any, .any, .any, .any, dn b, dn V, .d (csD (C0 ++ more)), .d (kidsD (kids b gs gs.length)), .any, .any, .any, .any, .any, .any, .any, .any, .any, .any, .any, .any, .any, .any, .any, .any, .any, .any, .any, .any, .any, .any, .any, .any, .any, .any, .any, .any, .any, .any, .any, .any, .any, .any, .any, .any, .any, .any, .any, .any, .any, .any, .any, .any, .any, .any, .any, .any, .any, .any, .any, .any, .any, .any, .any, .any, .any, .any, .any, .any, .any, .any, .any, .any, .any, .any, .any, .any, .any, .any, .any, .any, .any, .any, .any, .any, .any, .any, .any, .any, .any, .any, .any, .any, .any, .any, .any, .any, .any, .any, .any, .any, .any, .any, .any, .any, .any, .any, .any, .any, .any, .any, .any, .any, .any, .any, .any, .any, .any, .any, .any, .any, .any, .any, .any, .any, .any, .any, .any, .any, .any, .any, .any, .any, .any, .any, .any, .any, .any, .any, .any, .any, .any, .any, .any, .any, .any, .any, .any, .any, .any, .any, .any, .any, .any, .any, .any, .any, .any, .any, .any, .any, .any, .any, .any, .any, .any, .any, .any, .any, .any, .any, .any, .any, .any, .any, .any, .any, .any, .any]) ?_ ?_
  · unfold csD
    simp only [go_sem, List.length_map, Try.results8]
    refine aw_loop (fun q fr s => ∃ j : Nat, j ≤ more.length ∧ q = more.length - j ∧ (∀ c ∈ more.take j, (∀ l ∈ c, LitV V l) ∧ c.length ≤ 20) ∧ fr = [.any, .d (gatsD gs), .d (csD more), .any, .any, .any, .any, dn b, dn V, .rs s1.length 1 0 (C0 ++ more.take j).length (some 28), .d (kidsD (kids b gs gs.length)), .any, .any, .any, .any, .any, .any, .any, .any, .any, .any, .any, .any, .any, .any, .any, .any, .any, .any, .any, .any, .any, .any, .any, .any, .any, .any, .any, .any, .any, .any, .any, .any, .any, .any, .any, .any, .d (csD more), dn more.length, dn j, .any, .any, .any, .any, .any, .any, .any, .any, .any, .any, .any, .any, .any, .any, .any, .any, .any, .any, .any, .any, .any, .any, .any, .any, .any, .any, .any, .any, .any, .any, .any, .any, .any, .any, .any, .any, .any, .any, .any, .any, .any, .any, .any, .any, .any, .any, .any, .any, .any, .any, .any, .any, .any, .any, .any, .any, .any, .any, .any, .any, .any, .any, .any, .any, .any, .any, .any, .any, .any, .any, .any, .any, .any, .any, .any, .any, .any, .any, .any, .any, .any, .any, .any, .any, .any, .any, .any, .any, .any, .any, .any, .any, .any, .any, .any, .any, .any, .any, .any, .any, .any, .any, .any, .any, .any, .any, .any, .any, .any, .any, .any, .any, .any, .any, .any, .any, .any, .any, .any, .any, .any, .any, .any, .any, .any, .any, .any, .any, .any, .any, .any] ∧ s = s1 ++ [some (.cells (clzA (C0 ++ more.take j)))]) more.length _
      (Wk.mask [1, 2, 7, 8, 9, 10, 47, 48, 49] ⟨0, by omega, by omega, by simp, by rw [List.take_zero, List.append_nil]; rfl, by rw [List.take_zero, List.append_nil]⟩) ?_
    rintro q fr s ⟨j, hj, rfl, hval, rfl, rfl⟩
    rcases Nat.lt_or_ge j more.length with hlt | hge
    · have hd : decide ((j : Int) < (more.length : Int)) = true := by simp; omega
      have w2 := wrapS j (by omega)
      have g0 : List.getD (more.map isD) j default = isD (more.getD j []) := getD_mapD hlt
      have htk : C0 ++ more.take (j + 1) = C0 ++ more.take j ++ [more.getD j []] := by rw [take_getD [] hlt, List.append_assoc]
      have hall : ∀ c ∈ more.take (j + 1), c ∈ more.take j ∨ c = more.getD j [] := fun c hc => by
        rw [take_getD [] hlt] at hc
        simpa using hc
      have hlen : (C0 ++ more.take j).length ≤ 200 := by rw [List.length_append, List.length_take]; omega
      have hcb := hmc _ (getD_mem [] hlt)
      generalize more.getD j [] = c at g0 htk hall hcb
      generalize C0 ++ more.take j = Cj at htk hlen
      unfold csD
      simp only [go_sem, List.length_map, hd, g0, w2, isD, Try.results8]
      refine ⟨⟨by omega, by omega⟩, ex' (.bool (validB V c)) ⟨fun e => ?_, ?_⟩⟩
      · simp only [go_sem]
        exact ⟨e, ac' (validR_ac V (by omega) c (by omega) _ _ _ (And.intro rfl rfl))⟩
      simp only [go_sem, List.length_map, hd, g0, w2, isD, Try.results8]
      refine ⟨fun e => hout _, fun e => ?_⟩
      simp only [Bool.or_eq_false_iff, decide_eq_false_iff_not, Bool.not_eq_false'] at e
      have hcv := validB_iff.1 e.2
      refine ⟨⟨by rw [clzA_len]; omega, by simp only [maxLen]; omega, by omega⟩, Wk.keep [1, 2, 7, 8, 9, 10, 47, 48, 49] [2] (by decide) (Nat.le_refl _) hbd ⟨more.length - (j + 1), by omega, j + 1, hlt, rfl, fun c' hc' => ?_, ?_, ?_⟩⟩
      · rcases hall c' hc' with h1 | rfl
        · exact hval c' h1
        · exact ⟨hcv, by omega⟩
      · have hln : C0.length + (more.take (j + 1)).length = Cj.length + 1 := by rw [← List.length_append, htk, List.length_append]; rfl
        simp only [go_sem, hln, csD]
      · rw [htk, ← clzA_snoc]
        simp only [go_sem, ren_cls]
        rfl
    · have hd : decide ((j : Int) < (more.length : Int)) = false := by simp; omega
      have htk : more.take j = more := List.take_of_length_le hge
      rw [htk] at hval ⊢
      simp only [go_sem, List.length_map, hd, Try.results8]
      refine Wk.via ((Weak.mask [1, 2, 7, 8, 9, 10]).trans (Weak.freeze s1.length 1 0 ((C0 ++ more).map isD) (by rw [List.getElem?_append_right (Nat.le_refl _), Nat.sub_self]; rfl) (lies_cs _))) (Wk.mask [1, 2, 7, 8, 9, 10] ⟨hval, ?_⟩)
      simp [maskN, frzL, A.frz, csD]
  rintro fr s2 ⟨hmv, rfl⟩
  have hwant := hwant fun c hc => (hmv c hc).1
  have hCl : ∀ c ∈ C0 ++ more, (∀ l ∈ c, LitV V l) ∧ c.length ≤ 1000000 := fun c hc => by
    rcases List.mem_append.1 hc with hc | hc
    · exact ⟨(hclit c hc).1, by have := (hclit c hc).2; omega⟩
    · exact ⟨(hmv c hc).1, by have := (hmv c hc).2; omega⟩
  have hCn : (C0 ++ more).length ≤ 116 := by rw [List.length_append]; omega
  obtain ⟨hp1, hp2⟩ := pow12 (n := b) (by omega)
  have hpw : 2 ^ b ≤ 2 ^ 6 := Nat.pow_le_pow_right (by decide) hb0.2
  have hp64 : (2 : Nat) ^ 6 = 64 := by decide
  clear hclit hcl
  generalize C0 ++ more = C at hwant hCl hCn hinpS
  simp only [go_sem, Try.results8]
  refine aw_cut (fun fr t => ∃ I S, fr = [.any, .d (gatsD gs), .d (csD more), .any, .any, .any, .any, dn b, dn V, .d (csD C), .d (kidsD (kids b gs gs.length)), .any, .any, .ref (I .st) 0, .any, .any, .any, .any, .any, .any, .any, .any, .any, .any, .any, .any, .any, .any, .any, .any, .any, .any, .any, .any, .any, .any, .any, .any, .any, .any, .any, .any, .any, .any, .any, .any, .any, .any, .any, .any, .any, .any, .any, .any, .any, .any, .any, .any, .any, .any, .any, .any, .any, .any, .any, .any, .any, .any, .any, .any, .any, .any, .any, .any, .any, .any, .any, .any, .any, .any, .any, .any, .any, .any, .any, .any, .any, .any, .any, .any, .any, .any, .any, .any, .any, .any, .any, .any, .any, .any, .any, .any, .any, .any, .any, .any, .any, .any, .any, .any, .any, .any, .any, .any, .any, .any, .any, .any, .any, .any, .any, .any, .any, .any, .any, .any, .any, .any, .any, .any, .any, .any, .any, .any, .any, .any, .any, .any, .any, .any, .any, .any, .any, .any, .any, .any, .any, .any, .any, .any, .any, .any, .any, .any, .any, .any, .any, .any, .any, .any, .any, .any, .any, .any, .any, .any, .any, .any, .any, .any, .any, .any, .any, .any, .any, .any, .any, .any, .any, .any, .any] ∧ Hed s2 V C.length C 0 0 I S t) ?_ ?_
  · simp only [go_sem, Try.results8]
    refine ac' (with_ac V (by omega) C (by omega) hCl _ _ _ fun I s3 k1 k2 => ?_)
    obtain ⟨a1, a2, a3⟩ := addAll_cls V (by omega) C (by omega) hCl
    simp only [go_sem, Try.results8]
    exact Wk.mask [1, 2, 7, 8, 9, 10, 13] ⟨I, _, rfl, k1, k2, a1, by rw [a2]; exact Nat.le_refl _, by rw [a3]; exact Nat.le_refl _⟩
  rintro fr t ⟨I, S, rfl, hH⟩
  have hin : Inp b S := hinpS S hH.cls.rest.fin.gd.na hH.cls.vars hH.cls.cls
  clear hinpS
  have wb2 : IntKind.i64.wrap ((b : Int) + 2) = ((b + 2 : Nat) : Int) := by rw [wrap64_id _ (by omega) (by omega)]; omega
  have sh2 : bShl .i64 1 ((b + 2 : Nat) : Int) = ((2 ^ (b + 2) : Nat) : Int) := shl_pow (i := b + 2) (by omega)
  have wV1 := wrapS V (by omega)
  have e4 : 2 ^ (b + 2) = 4 * 2 ^ b := by rw [Nat.pow_add]; omega
  obtain ⟨F, hF⟩ : ∃ F, 2 ^ (b + 2) * (V + 1) = F := ⟨_, rfl⟩
  have hF4 : F = 4 * (2 ^ b * (V + 1)) := by rw [← hF, e4, Nat.mul_assoc]
  have hFb : 2 ^ b * (V + 1) ≤ 64 * 31 := Nat.mul_le_mul (by omega) (by omega)
  have wm : IntKind.i64.wrap (((2 ^ (b + 2) : Nat) : Int) * ((V + 1 : Nat) : Int)) = (F : Int) := by rw [← Int.natCast_mul, hF]; exact wrap64_id _ (by omega) (by omega)
  simp only [go_sem, Try.results8]
  refine aw_cut (fun fr t => ∃ I S v, fr = [.any, .d (gatsD gs), .d (csD more), .any, .any, .any, .any, dn b, dn V, .d (csD C), .d (kidsD (kids b gs gs.length)), .any, .any, .ref (I .st) 0, di v, di 0, .any, .any, .any, .any, .any, .any, .any, .any, .any, .any, .any, .any, .any, .any, .any, .any, .any, .any, .any, .any, .any, .any, .any, .any, .any, .any, .any, .any, .any, .any, .any, .any, .any, .any, .any, .any, .any, .any, .any, .any, .any, .any, .any, .any, .any, .any, .any, .any, .any, .any, .any, .any, .any, .any, .any, .any, .any, .any, .any, .any, .any, .any, .any, .any, .any, .any, .any, .any, .any, .any, .any, .any, .any, .any, .any, .any, .any, .any, .any, .any, .any, .any, .any, .any, .any, .any, .any, .any, .any, .any, .any, .any, .any, .any, .any, .any, .any, .any, .any, .any, .any, .any, .any, .any, .any, .any, .any, .any, .any, .any, .any, .any, .any, .any, .any, .any, .any, .any, .any, .any, .any, .any, .any, .any, .any, .any, .any, .any, .any, .any, .any, .any, .any, .any, .any, .any, .any, .any, .any, .any, .any, .any, .any, .any, .any, .any, .any, .any, .any, .any, .any, .any, .any, .any, .any, .any, .any, .any, .any, .any, .any, .any, .any, .any, .any] ∧ Hed s2 V (C.length + 1) C (2 ^ b * (V + 1)) (2 ^ b) I S t ∧ ((v = 1 ∧ SatA C [] ∧ S.satisfied = true ∧ S.values.length = V ∧ SatC (βV S.values) C) ∨ (v = 2 ∧ ¬ SatA C []))) ?_ ?_
  · simp only [go_sem, wb2, sh2, wV1, wm, Try.results8]
    refine ⟨by omega, ac' (ac_weak (Weak.nils nilA_asm) (solve_rest (b := b) hH.hs.sol hH.cls (by omega) (by have := hH.used; omega) (by omega) hin [] (by decide) (fun l hl => by cases hl) F _ _ (fun e => by omega) (fun e => by cases e) fun F' hF' _ hval m r hmm hr k1 k2 I' s' k3 k4 => ?_))⟩
    obtain rfl : F = F' := by omega
    have hvs := hH.cls.vars
    have hcs := hH.cls.cls
    have hu0 := hH.used
    have hs0 := hH.steps
    have hu1 := k1.used3
    have hs1 := k1.steps
    rw [hvs] at hu1
    rw [← k4.st]
    simp only [go_sem, Try.results8]
    refine Wk.mask [1, 2, 7, 8, 9, 10, 13, 14, 15] ⟨I', _, r.2, rfl, hH.step k4 k3 k2 (by omega) (by omega), ?_⟩
    rcases k1.v3 with e | e | e
    · obtain ⟨-, -, h1 | h1⟩ := k1.und e
      · rw [hvs] at h1; omega
      · simp only [pmax] at h1; omega
    · obtain ⟨-, h1, h2, h3, -⟩ := k1.yes e
      rw [hvs] at h2
      rw [hcs] at h3
      exact .inl ⟨e, by have := k1.sat e; rw [hcs] at this; exact this, h1, h2, h3⟩
    · exact .inr ⟨e, by have := k1.unsat e; rw [hcs] at this; exact this⟩
  clear hH hin I S
  rintro fr t ⟨I, S, v, rfl, hH, hv⟩
  simp only [go_sem, Try.results8]
  refine aw_cut (fun fr t => ∃ x : Int, x = (if wantB b gs more (2 ^ b) then 1 else 2) ∧ fr = [.any, .d (gatsD gs), .d (csD more), .any, .any, .any, .any, dn b, dn V, .d (csD C), .any, .any, .any, .ref (I .st) 0, di v, di 0, di x, .any, .any, .any, .any, .any, .any, .any, .any, .any, .any, .any, .any, .any, .any, .any, .any, .any, .any, .any, .any, .any, .any, .any, .any, .any, .any, .any, .any, .any, .any, .any, .any, .any, .any, .any, .any, .any, .any, .any, .any, .any, .any, .any, .any, .any, .any, .any, .any, .any, .any, .any, .any, .any, .any, .any, .any, .any, .any, .any, .any, .any, .any, .any, .any, .any, .any, .any, .any, .any, .any, .any, .any, .any, .any, .any, .any, .any, .any, .any, .any, .any, .any, .any, .any, .any, .any, .any, .any, .any, .any, .any, .any, .any, .any, .any, .any, .any, .any, .any, .any, .any, .any, .any, .any, .any, .any, .any, .any, .any, .any, .any, .any, .any, .any, .any, .any, .any, .any, .any, .any, .any, .any, .any, .any, .any, .any, .any, .any, .any, .any, .any, .any, .any, .any, .any, .any, .any, .any, .any, .any, .any, .any, .any, .any, .any, .any, .any, .any, .any, .any, .any, .any, .any, .any, .any, .any, .any, .any, .any, .any, .any, .any, .any, .any] ∧ Hed s2 V (C.length + 1) C (2 ^ b * (V + 1)) (2 ^ b) I S t) ?_ ?_
  · simp only [go_sem, Try.results8]
    refine aw_loop (fun q fr s => ∃ n : Nat, n ≤ 2 ^ b ∧ q = 2 ^ b - n ∧ fr = [.any, .d (gatsD gs), .d (csD more), .any, .any, .any, .any, dn b, dn V, .d (csD C), .d (kidsD (kids b gs gs.length)), .any, .any, .ref (I .st) 0, di v, di 0, di (if wantB b gs more n then 1 else 2), dn n, .any, .any, .any, .any, .any, .any, .any, .any, .any, .any, .any, .any, .any, .any, .any, .any, .any, .any, .any, .any, .any, .any, .any, .any, .any, .any, .any, .any, .any, .any, .any, .any, .any, .any, .any, .any, .any, .any, .any, .any, .any, .any, .any, .any, .any, .any, .any, .any, .any, .any, .any, .any, .any, .any, .any, .any, .any, .any, .any, .any, .any, .any, .any, .any, .any, .any, .any, .any, .any, .any, .any, .any, .any, .any, .any, .any, .any, .any, .any, .any, .any, .any, .any, .any, .any, .any, .any, .any, .any, .any, .any, .any, .any, .any, .any, .any, .any, .any, .any, .any, .any, .any, .any, .any, .any, .any, .any, .any, .any, .any, .any, .any, .any, .any, .any, .any, .any, .any, .any, .any, .any, .any, .any, .any, .any, .any, .any, .any, .any, .any, .any, .any, .any, .any, .any, .any, .any, .any, .any, .any, .any, .any, .any, .any, .any, .any, .any, .any, .any, .any, .any, .any, .any, .any, .any, .any, .any, .any, .any, .any, .any, .any, .any] ∧ Hed s2 V (C.length + 1) C (2 ^ b * (V + 1)) (2 ^ b) I S s) (2 ^ b) _
      (Wk.mask [1, 2, 7, 8, 9, 10, 13, 14, 15, 16, 17] ⟨0, Nat.zero_le _, rfl, rfl, hH⟩) ?_
    clear hH
    rintro q fr s ⟨n, hn, rfl, rfl, hH⟩
    have sb : bShl .i64 1 (b : Int) = ((2 ^ b : Nat) : Int) := shl_pow (i := b) (by omega)
    rcases Nat.lt_or_ge n (2 ^ b) with hlt | hge
    · have hd : decide ((n : Int) < ((2 ^ b : Nat) : Int)) = true := decide_eq_true (by omega)
      have wn := wrapS n (by omega)
      have hrun := fun j => (run_bit (gs := gs) n hlt j).1
      simp only [go_sem, sb, hd, Try.results8]
      refine ⟨by omega, ?_⟩
      refine aw_cut (fun fr s' => fr = [.any, .d (gatsD gs), .d (csD more), .any, .any, .any, .any, dn b, dn V, .d (csD C), .d (kidsD (kids b gs gs.length)), .any, .any, .ref (I .st) 0, di v, di 0, di (if wantB b gs more n then 1 else 2), dn n, dn n, .any, .any, .any, .any, .any, .any, .any, .any, .any, .any, .any, .any, .any, .any, .any, .any, .any, .any, .any, .any, .any, .any, .any, .any, .any, .any, .any, .any, .any, .any, .any, .any, .any, .any, .any, .any, .any, .any, .any, .any, .any, .any, .any, .any, .any, .any, .any, .any, .any, .any, .any, .any, .any, .any, .any, .any, .any, .any, .any, .any, .any, .any, .any, .any, .any, .any, .any, .any, .any, .any, .any, .any, .any, .any, .any, .any, .any, .any, .any, .any, .any, .any, .any, .any, .any, .any, .any, .any, .any, .any, .any, .any, .any, .any, .any, .any, .any, .any, .any, .any, .any, .any, .any, .any, .any, .any, .any, .any, .any, .any, .any, .any, .any, .any, .any, .any, .any, .any, .any, .any, .any, .any, .any, .any, .any, .any, .any, .any, .any, .any, .any, .any, .any, .any, .any, .any, .any, .any, .any, .any, .any, .any, .any, .any, .any, .any, .any, .any, .any, .any, .any, .any, .any, .any, .any, .any, .any, .any, .any, .any, .any, .any] ∧ s' = s) ?_ ?_
      · simp only [go_sem, Try.results8]
        exact Wk.mask [1, 2, 7, 8, 9, 10, 13, 14, 15, 16, 17, 18] ⟨rfl, rfl⟩
      rintro fr s' ⟨rfl, rfl⟩
      simp only [go_sem, Try.results8]
      refine aw_cut (fun fr s => fr = [.any, .d (gatsD gs), .d (csD more), .any, .any, .any, .any, dn b, dn V, .d (csD C), .d (kidsD (kids b gs gs.length)), .any, .any, .ref (I .st) 0, di v, di 0, di (if wantB b gs more n then 1 else 2), dn n, dn (runG b gs n gs.length), .any, .any, .any, .any, .any, .any, .any, .any, .any, .any, .any, .any, .any, .any, .any, .any, .any, .any, .any, .any, .any, .any, .any, .any, .any, .any, .any, .any, .any, .any, .any, .any, .any, .any, .any, .any, .any, .any, .any, .any, .any, .any, .any, .any, .any, .any, .any, .any, .any, .any, .any, .any, .any, .any, .any, .any, .any, .any, .any, .any, .any, .any, .any, .any, .any, .any, .any, .any, .any, .any, .any, .any, .any, .any, .any, .any, .any, .any, .any, .any, .any, .any, .any, .any, .any, .any, .any, .any, .any, .any, .any, .any, .any, .any, .any, .any, .any, .any, .any, .any, .any, .any, .any, .any, .any, .any, .any, .any, .any, .any, .any, .any, .any, .any, .any, .any, .any, .any, .any, .any, .any, .any, .any, .any, .any, .any, .any, .any, .any, .any, .any, .any, .any, .any, .any, .any, .any, .any, .any, .any, .any, .any, .any, .any, .any, .any, .any, .any, .any, .any, .any, .any, .any, .any, .any, .any, .any, .any, .any, .any, .any, .any] ∧ Hed s2 V (C.length + 1) C (2 ^ b * (V + 1)) (2 ^ b) I S s) ?_ ?_
      · unfold kidsD
        simp only [go_sem, List.length_map, kids_len, Try.results8]
        refine aw_loop (fun q fr s => ∃ j : Nat, j ≤ gs.length ∧ q = gs.length - j ∧ fr = [.any, .d (gatsD gs), .d (csD more), .any, .any, .any, .any, dn b, dn V, .d (csD C), .d (kidsD (kids b gs gs.length)), .any, .any, .ref (I .st) 0, di v, di 0, di (if wantB b gs more n then 1 else 2), dn n, dn (runG b gs n j), .any, .any, .any, .any, .any, .any, .any, .any, .any, .any, .any, .any, .any, .any, .any, .any, .any, .any, .any, .any, .any, .any, .any, .any, .any, .any, .any, .any, .any, .any, .any, .any, .any, .any, .any, .any, .any, .any, .any, .any, .any, .any, .any, .any, .any, .any, .any, .any, .any, .any, .any, .any, .any, .any, .any, .any, .any, .any, .any, .any, .any, .any, .any, .any, .any, .any, .any, .any, .any, .d (kidsD (kids b gs gs.length)), dn gs.length, dn j, .any, .any, .any, .any, .any, .any, .any, .any, .any, .any, .any, .any, .any, .any, .any, .any, .any, .any, .any, .any, .any, .any, .any, .any, .any, .any, .any, .any, .any, .any, .any, .any, .any, .any, .any, .any, .any, .any, .any, .any, .any, .any, .any, .any, .any, .any, .any, .any, .any, .any, .any, .any, .any, .any, .any, .any, .any, .any, .any, .any, .any, .any, .any, .any, .any, .any, .any, .any, .any, .any, .any, .any, .any, .any, .any, .any, .any, .any, .any, .any, .any, .any, .any, .any, .any, .any, .any, .any, .any, .any] ∧ Hed s2 V (C.length + 1) C (2 ^ b * (V + 1)) (2 ^ b) I S s) gs.length _
          (Wk.mask [1, 2, 7, 8, 9, 10, 13, 14, 15, 16, 17, 18, 88, 89, 90] ⟨0, Nat.zero_le _, rfl, rfl, hH⟩) ?_
        clear hH
        rintro q fr s ⟨j, hj, rfl, rfl, hH⟩
        rcases Nat.lt_or_ge j gs.length with jlt | jge
        · have jd : decide ((j : Int) < (gs.length : Int)) = true := decide_eq_true (by omega)
          have jw := wrapS j (by omega)
          have jg : List.getD ((kids b gs gs.length).map kidD) j default = kidD (kx b gs j, ky b gs j) := by
            rw [getD_mapD (d := (0, 0)) (by rw [kids_len]; exact jlt)]
            unfold kids
            rw [List.getD_eq_getElem?_getD, List.getElem?_map, List.getElem?_range jlt]; rfl
          have gg : List.getD (gs.map gatD) j default = gatD (gAt gs j) := getD_mapD jlt
          have hx : LitV 60 (kx b gs j) := kid_lit (by omega) (by omega)
          have hy : LitV 60 (ky b gs j) := kid_lit (by omega) (by omega)
          have hr := hrun j
          have hr2 : (2 : Nat) ^ (b + j) ≤ 2 ^ 30 := Nat.pow_le_pow_right (by decide) (by omega)
          have h30 : (2 : Nat) ^ 30 = 1073741824 := by decide
          have hnx : runG b gs n (j + 1) = if outB b gs (runG b gs n j) j then runG b gs n j ||| 2 ^ (b + j) else runG b gs n j := rfl
          unfold outB at hnx
          generalize runG b gs n j = al at hr hnx
          generalize kx b gs j = x at jg hx hnx
          generalize ky b gs j = y at jg hy hnx
          unfold kidsD
          simp only [go_sem, List.length_map, jd, jg, Try.results8]
          refine aw_cut (fun fr s' => fr = [.any, .d (gatsD gs), .d (csD more), .any, .any, .any, .any, dn b, dn V, .d (csD C), .d (kidsD (kids b gs gs.length)), .any, .any, .ref (I .st) 0, di v, di 0, di (if wantB b gs more n then 1 else 2), dn n, dn al, dn j, .ea (kidD (x, y)) 0, .any, .any, .any, .any, .any, .any, .any, .any, .any, .any, .any, .any, .any, .any, .any, .any, .any, .any, .any, .any, .any, .any, .any, .any, .any, .any, .any, .any, .any, .any, .any, .any, .any, .any, .any, .any, .any, .any, .any, .any, .any, .any, .any, .any, .any, .any, .any, .any, .any, .any, .any, .any, .any, .any, .any, .any, .any, .any, .any, .any, .any, .any, .any, .any, .any, .any, .any, .d (kidsD (kids b gs gs.length)), dn gs.length, dn j, .any, .any, .any, .any, .any, .any, .any, .any, .any, .any, .any, .any, .any, .any, .any, .any, .any, .any, .any, .any, .any, .any, .any, .any, .any, .any, .any, .any, .any, .any, .any, .any, .any, .any, .any, .any, .any, .any, .any, .any, .any, .any, .any, .any, .any, .any, .any, .any, .any, .any, .any, .any, .any, .any, .any, .any, .any, .any, .any, .any, .any, .any, .any, .any, .any, .any, .any, .any, .any, .any, .any, .any, .any, .any, .any, .any, .any, .any, .any, .any, .any, .any, .any, .any, .any, .any, .any, .any, .any, .any] ∧ s' = s ++ [none]) ?_ ?_
          · simp only [go_sem, List.length_map, kids_len, jd, jg, kidD, Try.results8]
            have hne : (I Sl.st == s.length) = false := by have := hH.hs.sol.lt .st trivial; rw [beq_eq_false_iff_ne]; omega
            refine ⟨⟨by omega, by omega⟩, Wk.via ((Weak.mask [1, 2, 7, 8, 9, 10, 13, 14, 15, 16, 17, 18, 19, 20, 88, 89, 90]).trans (Weak.freezeRef s.length [iD x, iD y] (by rw [List.getElem?_append_right (Nat.le_refl _), Nat.sub_self]; rfl) (by intro d hd; simp only [List.mem_cons, List.not_mem_nil, or_false] at hd; rcases hd with rfl | rfl <;> rfl))) (Wk.mask [1, 2, 7, 8, 9, 10, 13, 14, 15, 16, 17, 18, 19, 20, 88, 89, 90] ⟨?_, by simp⟩)⟩
            simp [maskN, refA, hne, kidsD, kidD]
          rintro fr s' ⟨rfl, rfl⟩
          replace hH := hH.app [none]
          generalize s ++ [none] = s at hH
          simp only [go_sem, Try.results8]
          refine aw_cut (fun fr s' => fr = [.any, .d (gatsD gs), .d (csD more), .any, .any, .any, .any, dn b, dn V, .d (csD C), .d (kidsD (kids b gs gs.length)), .any, .any, .ref (I .st) 0, di v, di 0, di (if wantB b gs more n then 1 else 2), dn n, dn al, dn j, .any, db (trueB al x), db (trueB al y), .any, .any, .any, .any, .any, .any, .any, .any, .any, .any, .any, .any, .any, .any, .any, .any, .any, .any, .any, .any, .any, .any, .any, .any, .any, .any, .any, .any, .any, .any, .any, .any, .any, .any, .any, .any, .any, .any, .any, .any, .any, .any, .any, .any, .any, .any, .any, .any, .any, .any, .any, .any, .any, .any, .any, .any, .any, .any, .any, .any, .any, .any, .any, .any, .any, .d (kidsD (kids b gs gs.length)), dn gs.length, dn j, .any, .any, .any, .any, .any, .any, .any, .any, .any, .any, .any, .any, .any, .any, .any, .any, .any, .any, .any, .any, .any, .any, .any, .any, .any, .any, .any, .any, .any, .any, .any, .any, .any, .any, .any, .any, .any, .any, .any, .any, .any, .any, .any, .any, .any, .any, .any, .any, .any, .any, .any, .any, .any, .any, .any, .any, .any, .any, .any, .any, .any, .any, .any, .any, .any, .any, .any, .any, .any, .any, .any, .any, .any, .any, .any, .any, .any, .any, .any, .any, .any, .any, .any, .any, .any, .any, .any, .any, .any, .any] ∧ s' = s) ?_ ?_
          · refine aw_plan (.tk 3 0 <| .take 4 <| .pure 3 <| .tk 2 5 <| .pure 7 <| .tk 2 8 <| .done) (by kernel_rfl) ?_
            simp only [go_sem, kidD, Try.results8]
            refine ⟨⟨by omega, by omega⟩, by decide, exP (db (trueB al x)) ⟨fun σ' => ?_, ?_⟩⟩
            · simp only [go_sem]
              exact ac' (true_ac al (by omega) x hx _ _ _ (And.intro rfl rfl))
            simp only [go_sem, kidD, Try.results8]
            refine ⟨⟨by omega, by omega⟩, by decide, exP (db (trueB al y)) ⟨fun σ' => ?_, ?_⟩⟩
            · simp only [go_sem]
              exact ac' (true_ac al (by omega) y hy _ _ _ (And.intro rfl rfl))
            simp only [go_sem, kidD, Try.results8]
            exact Wk.mask [1, 2, 7, 8, 9, 10, 13, 14, 15, 16, 17, 18, 19, 21, 22, 88, 89, 90] ⟨rfl, rfl⟩
          rintro fr s' ⟨rfl, rfl⟩
          generalize trueB al x = p1 at hnx
          generalize trueB al y = p2 at hnx
          have wbj : IntKind.i64.wrap ((b : Int) + (j : Int)) = ((b + j : Nat) : Int) := by rw [wrap64_id _ (by omega) (by omega)]; omega
          have sbj : bShl .i64 1 ((b + j : Nat) : Int) = ((2 ^ (b + j) : Nat) : Int) := shl_pow (i := b + j) (by omega)
          have obj := or64 (x := al) (y := 2 ^ (b + j)) (by omega) (by omega)
          have bb1 : (true != true) = false := rfl
          have bb2 : (true != false) = true := rfl
          have bb3 : (false != true) = true := rfl
          have bb4 : (false != false) = false := rfl
          unfold gatsD
          generalize hgj : gAt gs j = g at gg hnx
          obtain ⟨xo, na, nb, ga, gb⟩ := g
          simp only at hnx
          cases xo <;> cases p1 <;> cases p2
          all_goals
            simp only [go_sem, List.length_map, gg, gatD, wbj, sbj, obj, jw, bb1, bb2, bb3, bb4, Try.results8]
          · exact ⟨⟨by omega, by omega⟩, ⟨by omega, by omega⟩, Wk.mask [1, 2, 7, 8, 9, 10, 13, 14, 15, 16, 17, 18, 88, 89, 90] ⟨gs.length - (j + 1), by omega, j + 1, jlt, rfl, by rw [hnx]; rfl, hH⟩⟩
          · exact ⟨⟨by omega, by omega⟩, ⟨by omega, by omega⟩, Wk.mask [1, 2, 7, 8, 9, 10, 13, 14, 15, 16, 17, 18, 88, 89, 90] ⟨gs.length - (j + 1), by omega, j + 1, jlt, rfl, by rw [hnx]; rfl, hH⟩⟩
          · exact ⟨⟨by omega, by omega⟩, ⟨by omega, by omega⟩, Wk.mask [1, 2, 7, 8, 9, 10, 13, 14, 15, 16, 17, 18, 88, 89, 90] ⟨gs.length - (j + 1), by omega, j + 1, jlt, rfl, by rw [hnx]; rfl, hH⟩⟩
          · exact ⟨⟨by omega, by omega⟩, ⟨by omega, by omega⟩, by omega, Wk.mask [1, 2, 7, 8, 9, 10, 13, 14, 15, 16, 17, 18, 88, 89, 90] ⟨gs.length - (j + 1), by omega, j + 1, jlt, rfl, by rw [hnx]; rfl, hH⟩⟩
          · exact ⟨⟨by omega, by omega⟩, ⟨by omega, by omega⟩, Wk.mask [1, 2, 7, 8, 9, 10, 13, 14, 15, 16, 17, 18, 88, 89, 90] ⟨gs.length - (j + 1), by omega, j + 1, jlt, rfl, by rw [hnx]; rfl, hH⟩⟩
          · exact ⟨⟨by omega, by omega⟩, by omega, Wk.mask [1, 2, 7, 8, 9, 10, 13, 14, 15, 16, 17, 18, 88, 89, 90] ⟨gs.length - (j + 1), by omega, j + 1, jlt, rfl, by rw [hnx]; rfl, hH⟩⟩
          · exact ⟨⟨by omega, by omega⟩, by omega, Wk.mask [1, 2, 7, 8, 9, 10, 13, 14, 15, 16, 17, 18, 88, 89, 90] ⟨gs.length - (j + 1), by omega, j + 1, jlt, rfl, by rw [hnx]; rfl, hH⟩⟩
          · exact ⟨⟨by omega, by omega⟩, ⟨by omega, by omega⟩, Wk.mask [1, 2, 7, 8, 9, 10, 13, 14, 15, 16, 17, 18, 88, 89, 90] ⟨gs.length - (j + 1), by omega, j + 1, jlt, rfl, by rw [hnx]; rfl, hH⟩⟩
        · have jd : decide ((j : Int) < (gs.length : Int)) = false := decide_eq_false (by omega)
          have hje : j = gs.length := by omega
          subst hje
          simp only [go_sem, jd, Try.results8]
          exact Wk.mask [1, 2, 7, 8, 9, 10, 13, 14, 15, 16, 17, 18] ⟨rfl, hH⟩
      clear hH
      rintro fr s ⟨rfl, hH⟩
      have hr := hrun gs.length
      have hr2 : (2 : Nat) ^ (b + gs.length) ≤ 2 ^ 30 := Nat.pow_le_pow_right (by decide) (by omega)
      have h30 : (2 : Nat) ^ 30 = 1073741824 := by decide
      have hws := wantB_snoc b gs more n
      generalize runG b gs n gs.length = al at hr hws
      simp only [go_sem, Try.results8]
      refine ac' (ac_weak (Weak.nils (NilAL.cons (.refl _) (NilAL.cons (.refl _) (NilAL.cons (.d (.nil 1)) .nil)))) (sat_ac al (by omega) more (by omega) (fun c hc => ⟨by have := (hmv c hc).2; omega, fun l hl => by have := (hmv c hc).1 l hl; unfold LitV at this ⊢; omega⟩) _ _ _ ?_))
      cases hsb : satB al more with
      | true =>
        rw [hsb, Bool.or_true] at hws
        simp only [go_sem, wn, Try.results8]
        exact Wk.mask [1, 2, 7, 8, 9, 10, 13, 14, 15, 16, 17] ⟨2 ^ b - (n + 1), by omega, n + 1, hlt, rfl, by rw [hws]; rfl, hH⟩
      | false =>
        rw [hsb, Bool.or_false] at hws
        simp only [go_sem, wn, Try.results8]
        exact Wk.mask [1, 2, 7, 8, 9, 10, 13, 14, 15, 16, 17] ⟨2 ^ b - (n + 1), by omega, n + 1, hlt, rfl, by rw [hws]; rfl, hH⟩
    · have hd : decide ((n : Int) < ((2 ^ b : Nat) : Int)) = false := decide_eq_false (by omega)
      have hne : n = 2 ^ b := by omega
      subst hne
      simp only [go_sem, sb, hd, Try.results8]
      exact ⟨by omega, Wk.mask [1, 2, 7, 8, 9, 13, 14, 15, 16] ⟨_, rfl, rfl, hH⟩⟩
  clear hH
  rintro fr t ⟨x, hx, rfl, hH⟩
  have hxv : x = v := by
    rcases hv with ⟨e, hs, -⟩ | ⟨e, hs⟩
    · rw [hx, if_pos (hwant.1 hs), e]
    · rw [hx, if_neg (fun hw => hs (hwant.2 hw)), e]
  subst hxv
  clear hx
  have hz := hH.cls.rest.szs
  have hus := hH.used
  have hst := hH.steps
  have hpl := proofM_len S
  have wb1 := wrapS b (by omega)
  have sh1 : bShl .i64 1 ((b + 1 : Nat) : Int) = ((2 ^ (b + 1) : Nat) : Int) := shl_pow (i := b + 1) (by omega)
  have e2 : 2 ^ (b + 1) = 2 * 2 ^ b := by rw [Nat.pow_succ]; omega
  have z0 : ((0 : Int) != 0) = false := rfl
  have vv : (x != x) = false := by simp
  have d1 : decide (((2 ^ (b + 1) : Nat) : Int) < ((proofM S).length : Int)) = false := decide_eq_false (by omega)
  have d2 : decide ((F : Int) < (S.used : Int)) = false := decide_eq_false (by omega)
  simp only [go_sem, Try.results8]
  refine aw_cut (fun fr s => fr = [.any, .any, .any, .any, .any, .any, .any, .any, .any, .d (csD C), .any, .any, .any, .ref (I .st) 0, di x, .any, .any, .any, .any, .any, .any, .any, .any, .any, .any, .any, .any, .any, .any, .any, .any, .any, .any, .any, .any, .any, .any, .any, .any, .any, .any, .any, .any, .any, .any, .any, .any, .any, .any, .any, .any, .any, .any, .any, .any, .any, .any, .any, .any, .any, .any, .any, .any, .any, .any, .any, .any, .any, .any, .any, .any, .any, .any, .any, .any, .any, .any, .any, .any, .any, .any, .any, .any, .any, .any, .any, .any, .any, .any, .any, .any, .any, .any, .any, .any, .any, .any, .any, .any, .any, .any, .any, .any, .any, .any, .any, .any, .any, .any, .any, .any, .any, .any, .any, .any, .any, .any, .any, .any, .any, .any, .any, .any, .any, .any, .any, .any, .any, .any, .any, .any, .any, .any, .any, .any, .any, .any, .any, .any, .any, .any, .any, .any, .any, .any, .any, .any, .any, .any, .any, .any, .any, .any, .any, .any, .any, .any, .any, .any, .any, .any, .any, .any, .any, .any, .any, .any, .any, .any, .any, .any, .any, .any, .any, .any, .any, .any, .any, .any, .any, .any] ∧ s = t) ?_ ?_
  · simp only [go_sem, Try.results8]
    refine aw_plan (.tk 9 0 <| .tk 3 11 <| .tk 2 9 <| .tk 4 14 <| .tk 6 19 <| .take 18 <| .tk 10 25 <| .done) (by kernel_rfl) ?_
    simp only [go_sem, z0, vv, wb1, sh1, wb2, sh2, wV1, wm, Try.results8]
    refine ⟨by omega, ex' (prfD (proofM S)) ⟨fun _ => ?_, ?_⟩⟩
    · simp only [go_sem]
      exact ac' (proof_ac hH.hs.sol hz.1 hz.2.1 hz.2.2 _ _ (And.intro rfl rfl))
    unfold prfD
    simp only [go_sem, List.length_map, z0, vv, wb1, sh1, wb2, sh2, wV1, wm, d1, Try.results8]
    refine ⟨by omega, ex' (iD (S.used : Nat)) ⟨fun _ => ?_, ?_⟩⟩
    · simp only [go_sem]
      exact ac' (used_ac hH.hs.sol _ _ (And.intro rfl rfl))
    simp only [go_sem, List.length_map, z0, vv, wb1, sh1, wb2, sh2, wV1, wm, d1, d2, Try.results8]
    refine ex' (prfD (proofM S)) ⟨fun _ => ?_, ?_⟩
    · simp only [go_sem]
      exact ac' (proof_ac hH.hs.sol hz.1 hz.2.1 hz.2.2 _ _ (And.intro rfl rfl))
    simp only [go_sem, List.length_map, z0, vv, wb1, sh1, wb2, sh2, wV1, wm, d1, d2, Try.results8]
    refine ex' (.bool true) ⟨fun _ => ?_, ?_⟩
    · simp only [go_sem]
      exact ac' (all_ac V (by omega) C (proofM S) (prf_of hH.cls) _ _ _ (And.intro rfl rfl))
    simp only [go_sem, List.length_map, z0, vv, wb1, sh1, wb2, sh2, wV1, wm, d1, d2, Try.results8]
    exact Wk.mask [9, 13, 14] ⟨rfl, rfl⟩
  rintro fr s ⟨rfl, rfl⟩
  rcases hv with ⟨rfl, -, hv1, hv2, hv3⟩ | ⟨rfl, -⟩
  · have q1 : ((1 : Int) == 2) = false := rfl
    have hvm : valsM S = S.values := by unfold valsM; rw [hv1]; rfl
    have hbl : bitsN S.values ≤ 1000000000000 := by
      have h1 := bitsN_lt S.values
      have h2 : 2 ^ S.values.length ≤ 2 ^ 30 := Nat.pow_le_pow_right (by decide) (by omega)
      have h3 : (2 : Nat) ^ 30 = 1073741824 := by decide
      omega
    have hsb : satB (bitsN S.values) C = true := (satB_c (fun c hc l hl => ((hCl c hc).1 l hl).1) fun v hv => by rw [bitsN_bit]; rfl).2 hv3
    simp only [go_sem, q1, Try.results8]
    refine ex' (bsD S.values) ⟨fun _ => ?_, ?_⟩
    · simp only [go_sem]
      refine ac' (values_ac hH.hs.sol (fun _ => by omega) _ _ ?_)
      rw [hvm]
      exact And.intro rfl rfl
    simp only [go_sem, q1, Try.results8]
    refine ex' (iD (bitsN S.values : Nat)) ⟨fun _ => ?_, ?_⟩
    · simp only [go_sem]
      exact ac' (bits_ac S.values (by omega) _ _ _ (And.intro rfl rfl))
    simp only [go_sem, q1, Try.results8]
    refine ex' (.bool true) ⟨fun _ => ?_, ?_⟩
    · simp only [go_sem]
      refine ac' (ac_weak (Weak.nils (NilAL.cons (.refl _) (NilAL.cons (.refl _) (NilAL.cons (.d (.nil 1)) .nil)))) (sat_ac (bitsN S.values) hbl C (by omega) (fun c hc => ⟨(hCl c hc).2, fun l hl => by have := (hCl c hc).1 l hl; unfold LitV at this ⊢; omega⟩) _ _ _ ?_))
      rw [hsb]
      exact And.intro rfl rfl
    simp only [go_sem, q1, Try.results8]
    exact hout _
  · have q1 : ((2 : Int) == 2) = true := rfl
    simp only [go_sem, q1, Try.results8]
    refine ex' (.bool true) ⟨fun q => Bool.noConfusion q, ?_⟩
    simp only [go_sem, q1, Try.results8]
    refine ex' (.bool true) ⟨fun q => Bool.noConfusion q, ?_⟩
    simp only [go_sem, q1, Try.results8]
    refine ex' (.bool true) ⟨fun q => Bool.noConfusion q, ?_⟩
    simp only [go_sem, q1, Try.results8]
    exact hout _
end Go.Proofs.Ytnanofipjiclfaa
end PartX16
