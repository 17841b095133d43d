import Derived.Test.YtnanofipjiclfaaZ82

section PartQ1
/- Plain facts on the solver's model: the counts of clauses. -/
set_option linter.unusedSimpArgs false
set_option linter.unusedVariables false
namespace Go.Proofs.Ytnanofipjiclfaa
open Go Go.Ab

def flipC (c : Nat) : Nat := if c % 2 = 0 then c + 1 else c - 1
theorem code_neg {l : Int} (h : l ≠ 0) : code (-l) = flipC (code l) := by
  unfold flipC code
  by_cases h1 : l < 0
  · rw [if_neg (by omega), if_pos h1, if_neg (by omega)]; omega
  · rw [if_pos (by omega), if_neg h1, if_pos (by omega)]; omega
theorem flip_flip (c : Nat) : flipC (flipC c) = c := by unfold flipC; split <;> split <;> omega
theorem code_inj {a b : Int} (ha : a ≠ 0) (hb : b ≠ 0) (h : code a = code b) : a = b := by
  unfold code at h
  by_cases h1 : a < 0 <;> by_cases h2 : b < 0
  · rw [if_pos h1, if_pos h2] at h; omega
  · rw [if_pos h1, if_neg h2] at h; omega
  · rw [if_neg h1, if_pos h2] at h; omega
  · rw [if_neg h1, if_neg h2] at h; omega
/-- The literal of a place. -/
def litOf (c : Nat) : Int := if c % 2 = 0 then (c / 2 : Nat) else -((c / 2 : Nat) : Int)
theorem code_lit (c : Nat) (h : 2 ≤ c) : code (litOf c) = c ∧ litOf c ≠ 0 := by
  unfold litOf code
  by_cases h1 : c % 2 = 0
  · rw [if_pos h1, if_neg (by omega)]; omega
  · rw [if_neg h1, if_pos (by omega)]; omega
theorem code_ge {l : Int} (h : l ≠ 0) : 2 ≤ code l := by unfold code; split <;> omega
theorem vr_code {a b : Int} (ha : a ≠ 0) (hb : b ≠ 0) (h : vr a = vr b) : a = b ∨ a = -b := by unfold vr at h; omega
/-- Counting. -/
theorem countP_succ (p : Nat → Bool) (n : Nat) : (List.range (n + 1)).countP p = (List.range n).countP p + (p n).toNat := by
  rw [List.range_succ, List.countP_append, List.countP_singleton]
  cases p n <;> rfl
theorem countP_change (p q : Nat → Bool) (c : Nat) (h : ∀ k, k ≠ c → p k = q k) : ∀ (n : Nat), (List.range n).countP q + (if c < n then (p c).toNat else 0) = (List.range n).countP p + (if c < n then (q c).toNat else 0)
  | 0 => rfl
  | n + 1 => by
    have ih := countP_change p q c h n
    rw [countP_succ, countP_succ]
    rcases Nat.lt_trichotomy c n with hc | hc | hc
    · have e := h n (by omega)
      rw [if_pos hc, if_pos hc] at ih
      rw [if_pos (show c < n + 1 by omega), if_pos (show c < n + 1 by omega), e]
      omega
    · subst hc
      rw [if_neg (Nat.lt_irrefl _), if_neg (Nat.lt_irrefl _)] at ih
      rw [if_pos (Nat.lt_succ_self _), if_pos (Nat.lt_succ_self _)]
      omega
    · have e := h n (by omega)
      rw [if_neg (by omega), if_neg (by omega)] at ih
      rw [if_neg (by omega), if_neg (by omega), e]
      omega
theorem countP_zero {p : Nat → Bool} {n : Nat} : (List.range n).countP p = 0 ↔ ∀ k, k < n → p k = false := by
  rw [List.countP_eq_zero]
  simp
theorem countP_le_one {p : Nat → Bool} : ∀ {n : Nat}, (List.range n).countP p ≤ 1 → ∀ a b, a < n → b < n → p a = true → p b = true → a = b
  | 0, _, a, _, h, _, _, _ => by omega
  | n + 1, hc, a, b, ha, hb, pa, pb => by
    rw [List.range_succ, List.countP_append, List.countP_singleton] at hc
    by_cases hn : p n = true
    · rw [if_pos hn] at hc
      have h0 : (List.range n).countP p = 0 := by omega
      rw [countP_zero] at h0
      have e1 : a = n := by
        rcases Nat.lt_or_ge a n with h | h
        · rw [h0 a h] at pa; cases pa
        · omega
      have e2 : b = n := by
        rcases Nat.lt_or_ge b n with h | h
        · rw [h0 b h] at pb; cases pb
        · omega
      omega
    · have e1 : a ≠ n := fun e => hn (e ▸ pa)
      have e2 : b ≠ n := fun e => hn (e ▸ pb)
      exact countP_le_one (n := n) (by omega) a b (by omega) (by omega) pa pb
theorem countP_two {p : Nat → Bool} : ∀ {n : Nat}, 2 ≤ (List.range n).countP p → ∃ a b, a < n ∧ b < n ∧ a ≠ b ∧ p a = true ∧ p b = true
  | 0, h => by simp at h
  | n + 1, hc => by
    rw [List.range_succ, List.countP_append, List.countP_singleton] at hc
    by_cases hn : p n = true
    · rw [if_pos hn] at hc
      have h1 : ¬ (List.range n).countP p = 0 := by omega
      rw [countP_zero] at h1
      obtain ⟨a, ha⟩ := Classical.not_forall.1 h1
      obtain ⟨ha, pa⟩ := Classical.not_imp.1 ha
      exact ⟨a, n, by omega, by omega, by omega, by simpa using pa, hn⟩
    · rw [if_neg hn] at hc
      obtain ⟨a, b, h1, h2, h3, h4, h5⟩ := countP_two (n := n) hc
      exact ⟨a, b, by omega, by omega, h3, h4, h5⟩
/-- How many places of a clause are true; how many are not false. -/
def heldP (S : Sv) (id : Nat) (c : Nat) : Bool := decide (id ∈ S.occ.getD c []) && S.truth.getD c false
def opnP (S : Sv) (id : Nat) (c : Nat) : Bool := decide (id ∈ S.occ.getD c []) && !S.truth.getD (flipC c) false
def heldN (S : Sv) (id : Nat) : Nat := (List.range (2 * S.vars + 2)).countP (heldP S id)
def opnN (S : Sv) (id : Nat) : Nat := (List.range (2 * S.vars + 2)).countP (opnP S id)
structure Gd (S : Sv) : Prop where
  sh : Sh S
  v1 : S.vars ≤ 100
  na : S.added.length ≤ 40000
  nl : S.learned.length ≤ 20000
  lits : ∀ id, okId S id → ∀ l ∈ (S.cl id).lits, LitV S.vars l
  ll : ∀ id, okId S id → (S.cl id).lits.length ≤ 1000000
  nd : ∀ c, (S.occ.getD c []).Nodup
  ok : ∀ c, ∀ id ∈ S.occ.getD c [], okId S id
  mem : ∀ l, LitV S.vars l → ∀ id, okId S id → (id ∈ S.occ.getD (code l) [] ↔ l ∈ (S.cl id).lits)
  low : S.occ.getD 0 [] = [] ∧ S.occ.getD 1 [] = []
  hc : ∀ id, okId S id → (S.cl id).held = (heldN S id : Nat)
  oc : ∀ id, okId S id → (S.cl id).opn = (opnN S id : Nat)
  tv : ∀ l ∈ S.trail, LitV S.vars l
  tn : (S.trail.map vr).Nodup
  tt : ∀ l, LitV S.vars l → (S.tr l = true ↔ l ∈ S.trail)
  la : ∀ c, S.last.getD c 0 ≤ S.stamp
  um : ∀ v, S.marked.getD v false = false
  qu : ∀ id ∈ S.queue, okId S id
theorem okId_lt {S : Sv} {id : Nat} (h1 : S.added.length ≤ 40000) (h2 : S.learned.length ≤ 20000) (h : okId S id) : id < 60000 := by
  unfold okId clI clL at h
  by_cases hc : cmax ≤ id
  · rw [if_pos hc, if_pos hc] at h; simp only [cmax] at *; omega
  · rw [if_neg hc, if_neg hc] at h; omega
theorem nodup_bound : ∀ {n : Nat} {l : List Nat}, l.Nodup → (∀ x ∈ l, x < n) → l.length ≤ n
  | 0, l, _, hx => by
    cases l with
    | nil => exact Nat.le_refl _
    | cons a t => exact absurd (hx a (by simp)) (by omega)
  | n + 1, l, h, hx => by
    by_cases hm : n ∈ l
    · have h1 := nodup_bound (n := n) (l := l.erase n) (h.erase n) fun x hx' => by
        rw [h.mem_erase_iff] at hx'
        have := hx x hx'.2
        have := hx'.1
        omega
      rw [List.length_erase_of_mem hm] at h1
      omega
    · have h1 := nodup_bound (n := n) (l := l) h fun x hx' => by
        have := hx x hx'
        have : x ≠ n := fun e => hm (e ▸ hx')
        omega
      omega
namespace Gd
variable {S : Sv}
theorem occLen (h : Gd S) (c : Nat) : (S.occ.getD c []).length ≤ 60000 := nodup_bound (h.nd c) fun id hid => okId_lt h.na h.nl (h.ok c id hid)
theorem occOk (h : Gd S) (l : Int) : OccOk S l := ⟨by have := h.occLen (code l); omega, fun id hid => ⟨h.ok _ id hid, by have := okId_lt h.na h.nl (h.ok _ id hid); omega⟩⟩
theorem vmem (h : Gd S) {c id : Nat} (hm : id ∈ S.occ.getD c []) : 2 ≤ c ∧ c < 2 * S.vars + 2 ∧ LitV S.vars (litOf c) := by
  have h2 : 2 ≤ c := by
    rcases Nat.lt_or_ge c 2 with hc | hc
    · have : c = 0 ∨ c = 1 := by omega
      rcases this with rfl | rfl
      · rw [h.low.1] at hm; cases hm
      · rw [h.low.2] at hm; cases hm
    · exact hc
  have h3 : c < 2 * S.vars + 2 := by
    rcases Nat.lt_or_ge c (2 * S.vars + 2) with hc | hc
    · exact hc
    · rw [List.getD_eq_getElem?_getD, List.getElem?_eq_none (by rw [h.sh.occ]; exact hc)] at hm; cases hm
  refine ⟨h2, h3, ?_⟩
  unfold LitV litOf
  split <;> omega
theorem held_zero (h : Gd S) {id : Nat} (ho : okId S id) : (S.cl id).held = 0 ↔ ∀ l ∈ (S.cl id).lits, S.tr l = false := by
  have : (S.cl id).held = 0 ↔ heldN S id = 0 := by rw [h.hc id ho]; omega
  rw [this]
  unfold heldN
  rw [countP_zero]
  constructor
  · intro hz l hl
    have hv := h.lits id ho l hl
    have hk := hz (code l) hv.codeLt
    unfold heldP at hk
    rw [decide_eq_true ((h.mem l hv id ho).2 hl), Bool.true_and] at hk
    exact hk
  · intro hz c hc
    unfold heldP
    by_cases hm : id ∈ S.occ.getD c []
    · obtain ⟨h2, -, hv⟩ := h.vmem hm
      obtain ⟨e1, -⟩ := code_lit c h2
      have := hz (litOf c) ((h.mem _ hv id ho).1 (by rw [e1]; exact hm))
      unfold Sv.tr at this
      rw [e1] at this
      rw [this, Bool.and_false]
    · rw [decide_eq_false hm, Bool.false_and]
theorem held_nonneg (h : Gd S) {id : Nat} (ho : okId S id) : 0 ≤ (S.cl id).held ∧ 0 ≤ (S.cl id).opn := by rw [h.hc id ho, h.oc id ho]; omega
theorem opnP_lit (h : Gd S) {id : Nat} (ho : okId S id) {l : Int} (hv : LitV S.vars l) : opnP S id (code l) = true ↔ l ∈ (S.cl id).lits ∧ S.tr (-l) = false := by
  unfold opnP Sv.tr
  rw [code_neg hv.1, Bool.and_eq_true, decide_eq_true_eq, h.mem l hv id ho]
  simp
theorem opnP_of (h : Gd S) {id c : Nat} (ho : okId S id) (hp : opnP S id c = true) : ∃ l, LitV S.vars l ∧ code l = c ∧ l ∈ (S.cl id).lits ∧ S.tr (-l) = false := by
  have hp' := hp
  unfold opnP at hp'
  rw [Bool.and_eq_true, decide_eq_true_eq] at hp'
  obtain ⟨h2, -, hv⟩ := h.vmem hp'.1
  obtain ⟨e1, -⟩ := code_lit c h2
  refine ⟨litOf c, hv, e1, (h.opnP_lit ho hv).1 (by rw [e1]; exact hp)⟩
theorem opn_zero (h : Gd S) {id : Nat} (ho : okId S id) : (S.cl id).opn = 0 ↔ ∀ l ∈ (S.cl id).lits, S.tr (-l) = true := by
  have : (S.cl id).opn = 0 ↔ opnN S id = 0 := by rw [h.oc id ho]; omega
  rw [this]
  unfold opnN
  rw [countP_zero]
  constructor
  · intro hz l hl
    have hv := h.lits id ho l hl
    have hk := hz (code l) hv.codeLt
    cases ht : S.tr (-l) with
    | true => rfl
    | false => rw [(h.opnP_lit ho hv).2 ⟨hl, ht⟩] at hk; cases hk
  · intro hz c hc
    rw [Bool.eq_false_iff]
    intro hp
    obtain ⟨l, hv, -, hl, ht⟩ := h.opnP_of ho hp
    rw [hz l hl] at ht; cases ht
theorem opn_one (h : Gd S) {id : Nat} (ho : okId S id) (h1 : (S.cl id).opn ≤ 1) {l m : Int} (hl : l ∈ (S.cl id).lits) (hm : m ∈ (S.cl id).lits) (tl : S.tr (-l) = false) (tm : S.tr (-m) = false) : l = m := by
  have hn : opnN S id ≤ 1 := by rw [h.oc id ho] at h1; omega
  have vl := h.lits id ho l hl
  have vm := h.lits id ho m hm
  exact code_inj vl.1 vm.1 (countP_le_one hn _ _ vl.codeLt vm.codeLt ((h.opnP_lit ho vl).2 ⟨hl, tl⟩) ((h.opnP_lit ho vm).2 ⟨hm, tm⟩))
theorem opn_two (h : Gd S) {id : Nat} (ho : okId S id) (h1 : 1 < (S.cl id).opn) : ∃ l m, l ∈ (S.cl id).lits ∧ m ∈ (S.cl id).lits ∧ l ≠ m ∧ S.tr (-l) = false ∧ S.tr (-m) = false := by
  have hn : 2 ≤ opnN S id := by rw [h.oc id ho] at h1; omega
  obtain ⟨a, b, -, -, hab, pa, pb⟩ := countP_two hn
  obtain ⟨l, -, cl, hl, tl⟩ := h.opnP_of ho pa
  obtain ⟨m, -, cm, hm, tm⟩ := h.opnP_of ho pb
  exact ⟨l, m, hl, hm, fun e => hab (by rw [← cl, ← cm, e]), tl, tm⟩
theorem tlen (h : Gd S) : S.trail.length ≤ S.vars := by
  have h1 := nodup_bound (n := S.vars + 1) (l := 0 :: S.trail.map vr) (List.nodup_cons.2 ⟨fun hm => by
      obtain ⟨a, ha, e⟩ := List.mem_map.1 hm
      have va := h.tv a ha
      unfold LitV at va
      unfold vr at e
      omega, h.tn⟩) fun x hx => by
    rcases List.mem_cons.1 hx with rfl | hx
    · omega
    · obtain ⟨a, ha, rfl⟩ := List.mem_map.1 hx
      have va := h.tv a ha
      unfold LitV at va
      unfold vr
      omega
  rw [List.length_cons, List.length_map] at h1
  omega
theorem cb (h : Gd S) : Cb S 1000 := fun id ho => by
  have h1 : heldN S id ≤ 2 * S.vars + 2 := by unfold heldN; have := List.countP_le_length (p := heldP S id) (l := List.range (2 * S.vars + 2)); simpa using this
  have h2 : opnN S id ≤ 2 * S.vars + 2 := by unfold opnN; have := List.countP_le_length (p := opnP S id) (l := List.range (2 * S.vars + 2)); simpa using this
  have := h.v1
  rw [h.hc id ho, h.oc id ho]
  omega
end Gd
end Go.Proofs.Ytnanofipjiclfaa
end PartQ1

section PartQ2
/- Plain facts on the solver's model: the queue's members; a literal becomes true. -/
set_option linter.unusedSimpArgs false
set_option linter.unusedVariables false
namespace Go.Proofs.Ytnanofipjiclfaa
open Go Go.Ab

theorem swap_perm' {q : List Nat} {i j : Nat} (hi : i < q.length) (hj : j < q.length) : (Sv.swap q i j).Perm q := by
  have e1 : q.getD i 0 = q[i] := by rw [List.getD_eq_getElem?_getD, List.getElem?_eq_getElem hi]; rfl
  have e2 : q.getD j 0 = q[j] := by rw [List.getD_eq_getElem?_getD, List.getElem?_eq_getElem hj]; rfl
  unfold Sv.swap
  rw [e1, e2]
  exact List.set_set_perm hi hj
theorem swap_len' (q : List Nat) (i j : Nat) : (Sv.swap q i j).length = q.length := by simp [Sv.swap]
theorem up_perm (q : List Nat) (j : Nat) (hj : j < q.length) : (Sv.up q j).Perm q := by
  induction j using Nat.strongRecOn generalizing q with
  | _ j ih =>
    unfold Sv.up
    by_cases h : (j - 1) / 2 = j
    · rw [dif_pos h]
    · rw [dif_neg h]
      split
      · exact (ih _ (by omega) _ (by rw [swap_len']; omega)).trans (swap_perm' (by omega) hj)
      · exact List.Perm.refl _
theorem hpush_perm (q : List Nat) (x : Nat) : (Sv.hpush q x).Perm (q ++ [x]) := by
  unfold Sv.hpush
  exact up_perm _ _ (by simp)
theorem mem_hpush {q : List Nat} {x y : Nat} : y ∈ Sv.hpush q x ↔ y ∈ q ∨ y = x := by
  rw [(hpush_perm q x).mem_iff]; simp
theorem down_perm (n : Nat) : ∀ (k : Nat) (q : List Nat) (i : Nat), n - i ≤ k → n ≤ q.length → (Sv.down q i n).Perm q
  | 0, q, i, hk, hn => by
    unfold Sv.down
    rw [dif_pos (by omega)]
  | k + 1, q, i, hk, hn => by
    unfold Sv.down
    by_cases h : n ≤ 2 * i + 1
    · rw [dif_pos h]
    · rw [dif_neg h]
      split
      · have h2 : Sv.least q i n < n ∧ i < Sv.least q i n := by unfold Sv.least; split <;> omega
        exact (down_perm n k _ _ (by omega) (by rw [swap_len']; exact hn)).trans (swap_perm' (by omega) (by omega))
      · exact List.Perm.refl _
theorem hpop_perm {q : List Nat} (h : q ≠ []) : (Sv.hpop q).Perm q := by
  have h1 : 0 < q.length := List.length_pos_iff.2 h
  unfold Sv.hpop
  exact (down_perm _ (q.length - 1) _ _ (by omega) (by rw [swap_len']; omega)).trans (swap_perm' (by omega) (by omega))
/-- What is popped and what is left make up the queue. -/
theorem hpop_split {q : List Nat} (h : q ≠ []) (y : Nat) : y ∈ q ↔ y ∈ (Sv.hpop q).dropLast ∨ y = (Sv.hpop q).getLastD 0 := by
  have hp := hpop_perm h
  have hne : Sv.hpop q ≠ [] := fun e => by rw [e] at hp; exact h hp.symm.eq_nil
  rw [← hp.mem_iff]
  have e : (Sv.hpop q).dropLast ++ [(Sv.hpop q).getLastD 0] = Sv.hpop q := by
    have := List.dropLast_concat_getLast hne
    rw [List.getLastD_eq_getLast?, List.getLast?_eq_some_getLast hne]
    exact this
  constructor
  · intro hy
    rw [← e] at hy
    simpa using hy
  · intro hy
    rw [← e]
    simpa using hy
theorem hpop_len {q : List Nat} (h : q ≠ []) : (Sv.hpop q).dropLast.length + 1 = q.length := by
  have h1 : 0 < q.length := List.length_pos_iff.2 h
  rw [List.length_dropLast, (hpop_perm h).length_eq]; omega
/-- Folds over clauses. -/
theorem fold_cl (g : Sv → Nat → Sv) (f : Cl → Cl) (hok : ∀ S i k, okId (g S i) k ↔ okId S k) (hcl : ∀ S i k, okId S i → (g S i).cl k = if i = k then f (S.cl k) else S.cl k) : ∀ (ids : List Nat) (S : Sv), ids.Nodup → (∀ i ∈ ids, okId S i) → ∀ k, (ids.foldl g S).cl k = if k ∈ ids then f (S.cl k) else S.cl k
  | [], S, _, _, k => by simp
  | i :: ids, S, hn, ho, k => by
    rw [List.nodup_cons] at hn
    rw [List.foldl_cons, fold_cl g f hok hcl ids (g S i) hn.2 (fun j hj => (hok _ _ _).2 (ho j (List.mem_cons_of_mem _ hj))) k, hcl S i k (ho i (List.mem_cons_self ..))]
    by_cases h : i = k
    · subst h
      rw [if_neg hn.1, if_pos rfl, if_pos (List.mem_cons_self ..)]
    · have : k ∈ i :: ids ↔ k ∈ ids := by rw [List.mem_cons]; exact ⟨fun h' => h'.elim (fun e => absurd e.symm h) id, Or.inr⟩
      simp only [this, if_neg h]
theorem holds_cl {S : Sv} {ids : List Nat} (d : Int) (hn : ids.Nodup) (ho : ∀ i ∈ ids, okId S i) (k : Nat) : (holds S ids d).cl k = if k ∈ ids then ⟨(S.cl k).lits, (S.cl k).opn, (S.cl k).held + d⟩ else S.cl k :=
  fold_cl (fun S id => S.hold id d) (fun c => ⟨c.lits, c.opn, c.held + d⟩) (fun _ _ _ => okId_hold) (fun S i k h => by
    unfold Sv.hold
    rw [cl_put _ h]
    by_cases e : i = k
    · rw [if_pos e, if_pos e, e]
    · rw [if_neg e, if_neg e]) ids S hn ho k
theorem openD_cl {S : Sv} {i : Nat} (d : Int) (h : okId S i) (k : Nat) : (S.openD i d).cl k = if i = k then ⟨(S.cl k).lits, (S.cl k).opn + d, (S.cl k).held⟩ else S.cl k := by
  unfold Sv.openD
  rw [cl_put _ h]
  by_cases e : i = k
  · rw [if_pos e, if_pos e, e]
  · rw [if_neg e, if_neg e]
theorem opens_cl {S : Sv} {ids : List Nat} (d : Int) (hn : ids.Nodup) (ho : ∀ i ∈ ids, okId S i) (k : Nat) : (opens S ids d).cl k = if k ∈ ids then ⟨(S.cl k).lits, (S.cl k).opn + d, (S.cl k).held⟩ else S.cl k :=
  fold_cl (fun S id => S.openD id d) (fun c => ⟨c.lits, c.opn + d, c.held⟩) (fun _ _ _ => okId_open) (fun S i k h => openD_cl d h k) ids S hn ho k
theorem seen_cl {S : Sv} {ids : List Nat} (hn : ids.Nodup) (ho : ∀ i ∈ ids, okId S i) (k : Nat) : (seen S ids).cl k = if k ∈ ids then ⟨(S.cl k).lits, (S.cl k).opn + (-1), (S.cl k).held⟩ else S.cl k :=
  fold_cl (fun S id => (S.openD id (-1)).examine id) (fun c => ⟨c.lits, c.opn + (-1), c.held⟩) (fun _ _ _ => okId_ex.trans okId_open) (fun S i k h => by rw [cl_ex]; exact openD_cl (-1) h k) ids S hn ho k
/-- All but the clauses' numbers and the queue is the same. -/
def Shp (S S' : Sv) : Prop := ∃ ad le qu, S' = { S with added := ad, learned := le, queue := qu } ∧ ad.length = S.added.length ∧ le.length = S.learned.length
theorem Shp.refl (S : Sv) : Shp S S := ⟨_, _, _, rfl, rfl, rfl⟩
theorem Shp.trans {S S' S'' : Sv} (h : Shp S S') (h' : Shp S' S'') : Shp S S'' := by
  obtain ⟨a, b, c, rfl, h1, h2⟩ := h
  obtain ⟨a', b', c', rfl, h1', h2'⟩ := h'
  exact ⟨_, _, _, rfl, h1'.trans h1, h2'.trans h2⟩
theorem Shp.put (S : Sv) (id : Nat) (c : Cl) : Shp S (S.put id c) := ⟨_, _, S.queue, rfl, by split <;> simp, by split <;> simp⟩
theorem Shp.ex (S : Sv) (id : Nat) : Shp S (S.examine id) := by
  unfold Sv.examine
  split
  · exact ⟨_, _, _, rfl, rfl, rfl⟩
  · exact Shp.refl S
theorem Shp.fold {g : Sv → Nat → Sv} (h : ∀ S i, Shp S (g S i)) : ∀ (ids : List Nat) (S : Sv), Shp S (ids.foldl g S)
  | [], S => Shp.refl S
  | i :: ids, S => (h S i).trans (Shp.fold h ids _)
theorem Shp.holds (S : Sv) (ids : List Nat) (d : Int) : Shp S (holds S ids d) := Shp.fold (fun _ _ => Shp.put _ _ _) ids S
theorem Shp.opens (S : Sv) (ids : List Nat) (d : Int) : Shp S (opens S ids d) := Shp.fold (fun _ _ => Shp.put _ _ _) ids S
theorem Shp.seen (S : Sv) (ids : List Nat) : Shp S (seen S ids) := Shp.fold (fun _ _ => (Shp.put _ _ _).trans (Shp.ex _ _)) ids S
theorem Shp.ok {S S' : Sv} (h : Shp S S') (id : Nat) : okId S' id ↔ okId S id := by
  obtain ⟨a, b, c, rfl, h1, h2⟩ := h
  unfold okId clL
  split
  · simp only [h2]
  · simp only [h1]
/-- The queue of a clause that is examined. -/
theorem mem_ex {S : Sv} {id k : Nat} : k ∈ (S.examine id).queue ↔ k ∈ S.queue ∨ (k = id ∧ (S.cl id).held = 0 ∧ (S.cl id).opn ≤ 1) := by
  unfold Sv.examine
  split
  · rename_i h
    show k ∈ Sv.hpush S.queue id ↔ _
    rw [mem_hpush]
    exact ⟨fun h' => h'.imp (fun x => x) fun e => ⟨e, h⟩, fun h' => h'.imp (fun x => x) fun e => e.1⟩
  · rename_i h
    exact ⟨Or.inl, fun h' => h'.elim (fun x => x) fun e => absurd e.2 h⟩
theorem seen_mem : ∀ {ids : List Nat} {S : Sv}, ids.Nodup → (∀ i ∈ ids, okId S i) → ∀ k, k ∈ (seen S ids).queue ↔ k ∈ S.queue ∨ (k ∈ ids ∧ (S.cl k).held = 0 ∧ (S.cl k).opn ≤ 2)
  | [], S, _, _, k => by simp [seen]
  | i :: ids, S, hn, ho, k => by
    rw [List.nodup_cons] at hn
    have hs : seen S (i :: ids) = seen ((S.openD i (-1)).examine i) ids := rfl
    have hi := ho i (List.mem_cons_self ..)
    rw [hs, seen_mem hn.2 (fun j hj => by rw [okId_ex, okId_open]; exact ho j (List.mem_cons_of_mem _ hj)) k, mem_ex, cl_ex, openD_cl (-1) hi, openD_cl (-1) hi, if_pos rfl]
    show (k ∈ S.queue ∨ _) ∨ _ ↔ _
    rw [List.mem_cons]
    by_cases e : i = k
    · subst e
      rw [if_pos rfl]
      constructor
      · rintro ((h | ⟨-, h1, h2⟩) | ⟨h, -⟩)
        · exact Or.inl h
        · refine Or.inr ⟨Or.inl rfl, h1, ?_⟩
          simp only at h2
          omega
        · exact absurd h hn.1
      · rintro (h | ⟨-, h1, h2⟩)
        · exact Or.inl (Or.inl h)
        · refine Or.inl (Or.inr ⟨rfl, h1, ?_⟩)
          simp only
          omega
    · rw [if_neg e]
      constructor
      · rintro ((h | ⟨h, -⟩) | ⟨h, h'⟩)
        · exact Or.inl h
        · exact absurd h.symm e
        · exact Or.inr ⟨Or.inr h, h'⟩
      · rintro (h | ⟨h | h, h'⟩)
        · exact Or.inl (Or.inl h)
        · exact absurd h.symm e
        · exact Or.inr ⟨h, h'⟩
end Go.Proofs.Ytnanofipjiclfaa
end PartQ2

section PartQ3
/- Plain facts on the solver's model: the good state is kept by assign and retract. -/
set_option linter.unusedSimpArgs false
set_option linter.unusedVariables false
namespace Go.Proofs.Ytnanofipjiclfaa
open Go Go.Ab

theorem getD_set_eq {α : Type} {l : List α} {i : Nat} {x d : α} (h : i < l.length) : (l.set i x).getD i d = x := by
  rw [List.getD_eq_getElem?_getD, List.getElem?_set_self h]; rfl
/-- The counts when one truth changes. -/
theorem held_set {S S' : Sv} {l : Int} {b : Bool} (ho : S'.occ = S.occ) (hv : S'.vars = S.vars) (ht : S'.truth = S.truth.set (code l) b) (hl : LitV S.vars l) (id : Nat) : heldN S' id + (heldP S id (code l)).toNat = heldN S id + (heldP S' id (code l)).toNat := by
  have h := countP_change (heldP S id) (heldP S' id) (code l) (fun k hk => by
    unfold heldP
    rw [ho, ht, getD_set_ne (Ne.symm hk)]) (2 * S.vars + 2)
  rw [if_pos hl.codeLt, if_pos hl.codeLt] at h
  unfold heldN
  rw [hv]
  exact h
theorem opn_set {S S' : Sv} {l : Int} {b : Bool} (ho : S'.occ = S.occ) (hv : S'.vars = S.vars) (ht : S'.truth = S.truth.set (code l) b) (hl : LitV S.vars l) (id : Nat) : opnN S' id + (opnP S id (code (-l))).toNat = opnN S id + (opnP S' id (code (-l))).toNat := by
  have h := countP_change (opnP S id) (opnP S' id) (code (-l)) (fun k hk => by
    unfold opnP
    rw [ho, ht, getD_set_ne (i := code l) (j := flipC k) fun e => hk (by rw [code_neg hl.1, e, flip_flip])]) (2 * S.vars + 2)
  rw [if_pos hl.neg.codeLt, if_pos hl.neg.codeLt] at h
  unfold opnN
  rw [hv]
  exact h
theorem toNat_and (p : Prop) [Decidable p] : (decide p && true).toNat = if p then 1 else 0 := by by_cases h : p <;> simp [h]
theorem toNat_andf (b : Bool) : (b && false).toNat = 0 := by cases b <;> rfl
namespace Gd
variable {S : Sv}
theorem tr_iff (h : Gd S) {l : Int} (hl : LitV S.vars l) : S.truth.getD (code l) false = true ↔ l ∈ S.trail := h.tt l hl
theorem not_both (h : Gd S) {l : Int} (hl : l ∈ S.trail) : -l ∉ S.trail := fun hm => by
  have h1 := h.tn
  obtain ⟨s, t, e⟩ := List.append_of_mem hl
  have hv := h.tv l hl
  unfold LitV at hv
  rw [e] at hm h1
  rw [List.map_append, List.map_cons, List.nodup_append, List.nodup_cons] at h1
  have hn : -l ≠ l := by omega
  rw [List.mem_append, List.mem_cons] at hm
  have e2 : vr (-l) = vr l := by unfold vr; omega
  rcases hm with hm | hm | hm
  · exact h1.2.2 (vr (-l)) (List.mem_map_of_mem hm) (vr l) (List.mem_cons_self ..) e2
  · exact hn hm
  · exact h1.2.1.1 (by rw [← e2]; exact List.mem_map_of_mem hm)
end Gd
/-- A literal that is neither true nor false. -/
def Free (S : Sv) (l : Int) : Prop := S.tr l = false ∧ S.tr (-l) = false
theorem free_vr {S : Sv} (h : Gd S) {l : Int} (hl : LitV S.vars l) (hf : Free S l) : vr l ∉ S.trail.map vr := fun hm => by
  obtain ⟨a, ha, e⟩ := List.mem_map.1 hm
  have va := h.tv a ha
  rcases vr_code va.1 hl.1 e with rfl | rfl
  · have := (h.tt _ va).2 ha; rw [hf.1] at this; cases this
  · have := (h.tt _ va).2 ha; rw [hf.2] at this; cases this
/-- One more true literal, its clauses seen to. -/
structure Asg (S S' : Sv) (l : Int) : Prop where
  vars : S'.vars = S.vars
  occ : S'.occ = S.occ
  last : S'.last = S.last
  stamp : S'.stamp = S.stamp
  truth : S'.truth = S.truth.set (code l) true
  trail : S'.trail = S.trail ++ [l]
  starts : S'.starts = S.starts
  marked : S'.marked = S.marked
  steps : S'.steps = S.steps
  solves : S'.solves = S.solves
  first : S'.first = S.first
  nadded : S'.added.length = S.added.length
  nlearned : S'.learned.length = S.learned.length
  ok : ∀ id, okId S' id ↔ okId S id
  lits : ∀ id, (S'.cl id).lits = (S.cl id).lits
  held : ∀ id, (S'.cl id).held = if id ∈ S.occ.getD (code l) [] then (S.cl id).held + 1 else (S.cl id).held
  opn : ∀ id, (S'.cl id).opn = if id ∈ S.occ.getD (code (-l)) [] then (S.cl id).opn + (-1) else (S.cl id).opn
  queue : ∀ id, id ∈ S'.queue ↔ id ∈ S.queue ∨ (id ∈ S.occ.getD (code (-l)) [] ∧ (S'.cl id).held = 0 ∧ (S'.cl id).opn ≤ 1)
  nqueue : S'.queue.length ≤ S.queue.length + (S.occ.getD (code (-l)) []).length
theorem assign_asg {S : Sv} (h : Gd S) {l reason : Int} (hl : LitV S.vars l) (hleft : S.left ≠ 0) : (S.assign l reason).2 = true ∧ Asg S (S.assign l reason).1 l ∧ (S.assign l reason).1.left = S.left - 1 ∧ (S.assign l reason).1.reasons = S.reasons.set (vr l) reason ∧ (S.assign l reason).1.levels = S.levels.set (vr l) S.starts.length := by
  unfold Sv.assign
  rw [if_neg hleft]
  simp only
  generalize hS1 : S.mark1 l reason = S1
  have e1 : S1 = { S with left := S.left - 1, truth := S.truth.set (code l) true, reasons := S.reasons.set (vr l) reason, levels := S.levels.set (vr l) S.starts.length, trail := S.trail ++ [l] } := by rw [← hS1]; rfl
  have o1 : S1.occ = S.occ := by rw [e1]
  have k1 : ∀ id, okId S1 id ↔ okId S id := fun id => by rw [e1]; exact Iff.rfl
  have c1 : ∀ id, S1.cl id = S.cl id := fun id => by rw [e1]; rfl
  rw [o1]
  generalize hS2 : (S.occ.getD (code l) []).foldl (fun S id => S.hold id 1) S1 = S2
  have hS2' : holds S1 (S.occ.getD (code l) []) 1 = S2 := hS2
  have sh2 : Shp S1 S2 := by rw [← hS2']; exact Shp.holds _ _ _
  have c2 : ∀ k, S2.cl k = if k ∈ S.occ.getD (code l) [] then ⟨(S1.cl k).lits, (S1.cl k).opn, (S1.cl k).held + 1⟩ else S1.cl k := fun k => by
    rw [← hS2']; exact holds_cl 1 (h.nd _) (fun i hi => (k1 i).2 (h.ok _ i hi)) k
  have o2 : S2.occ = S.occ := by rw [← hS2', holds_occ, o1]
  have q2 : S2.queue = S.queue := by rw [← hS2', holds_queue, e1]
  have k2 : ∀ id, okId S2 id ↔ okId S id := fun id => (sh2.ok id).trans (k1 id)
  rw [o2]
  generalize hS3 : (S.occ.getD (code (-l)) []).foldl (fun S id => (S.openD id (-1)).examine id) S2 = S3
  have hS3' : seen S2 (S.occ.getD (code (-l)) []) = S3 := hS3
  have sh3 : Shp S2 S3 := by rw [← hS3']; exact Shp.seen _ _
  have c3 : ∀ k, S3.cl k = if k ∈ S.occ.getD (code (-l)) [] then ⟨(S2.cl k).lits, (S2.cl k).opn + (-1), (S2.cl k).held⟩ else S2.cl k := fun k => by
    rw [← hS3']; exact seen_cl (h.nd _) (fun i hi => (k2 i).2 (h.ok _ i hi)) k
  have m3 : ∀ k, k ∈ S3.queue ↔ k ∈ S2.queue ∨ (k ∈ S.occ.getD (code (-l)) [] ∧ (S2.cl k).held = 0 ∧ (S2.cl k).opn ≤ 2) := fun k => by
    rw [← hS3']; exact seen_mem (h.nd _) (fun i hi => (k2 i).2 (h.ok _ i hi)) k
  have n3 : S3.queue.length ≤ S.queue.length + (S.occ.getD (code (-l)) []).length := by
    rw [← hS3', ← q2]; exact seen_queue _ _
  have sh : Shp S1 S3 := sh2.trans sh3
  have hok : ∀ id, okId S3 id ↔ okId S id := fun id => (sh.ok id).trans (k1 id)
  obtain ⟨ad, le, qu, e3, hn1, hn2⟩ := sh
  have lit : ∀ id, (S3.cl id).lits = (S.cl id).lits := fun id => by
    rw [c3 id]
    have : (S2.cl id).lits = (S.cl id).lits := by rw [c2 id, ← c1 id]; split <;> rfl
    split <;> exact this
  have hel : ∀ id, (S3.cl id).held = if id ∈ S.occ.getD (code l) [] then (S.cl id).held + 1 else (S.cl id).held := fun id => by
    rw [c3 id]
    have : (S2.cl id).held = if id ∈ S.occ.getD (code l) [] then (S.cl id).held + 1 else (S.cl id).held := by rw [c2 id, ← c1 id]; split <;> rfl
    split <;> exact this
  have op : ∀ id, (S3.cl id).opn = if id ∈ S.occ.getD (code (-l)) [] then (S.cl id).opn + (-1) else (S.cl id).opn := fun id => by
    rw [c3 id]
    have : (S2.cl id).opn = (S.cl id).opn := by rw [c2 id, ← c1 id]; split <;> rfl
    split
    · show (S2.cl id).opn + (-1) = _
      rw [this]
    · exact this
  have qm : ∀ id, id ∈ S3.queue ↔ id ∈ S.queue ∨ (id ∈ S.occ.getD (code (-l)) [] ∧ (S3.cl id).held = 0 ∧ (S3.cl id).opn ≤ 1) := fun id => by
    rw [m3 id, q2]
    by_cases hm : id ∈ S.occ.getD (code (-l)) []
    · rw [c3 id, if_pos hm]
      simp only
      constructor
      · rintro (h | ⟨h1, h2, h3⟩)
        · exact Or.inl h
        · exact Or.inr ⟨h1, h2, by omega⟩
      · rintro (h | ⟨h1, h2, h3⟩)
        · exact Or.inl h
        · exact Or.inr ⟨h1, h2, by omega⟩
    · exact ⟨fun h => h.elim Or.inl fun h => absurd h.1 hm, fun h => h.elim Or.inl fun h => absurd h.1 hm⟩
  rw [e1] at e3 hn1 hn2
  clear hS3 hS3' sh3 sh2 hS2 hS2' c3 m3 k1 c1 o1 e1 hS1
  subst e3
  exact ⟨trivial, ⟨rfl, rfl, rfl, rfl, rfl, rfl, rfl, rfl, rfl, rfl, rfl, hn1, hn2, hok, lit, hel, op, qm, n3⟩, rfl, rfl, rfl⟩
theorem Asg.gd {S S' : Sv} {l : Int} (a : Asg S S' l) (h : Gd S) (hl : LitV S.vars l) (hf : Free S l) (hs : Sh S') : Gd S' where
  sh := hs
  v1 := by rw [a.vars]; exact h.v1
  na := by rw [a.nadded]; exact h.na
  nl := by rw [a.nlearned]; exact h.nl
  lits id ho := by rw [a.lits, a.vars]; exact h.lits id ((a.ok id).1 ho)
  ll id ho := by rw [a.lits]; exact h.ll id ((a.ok id).1 ho)
  nd := by rw [a.occ]; exact h.nd
  ok c id hm := (a.ok id).2 (h.ok c id (by rw [← a.occ]; exact hm))
  mem l' hl' id ho := by rw [a.occ, a.lits]; exact h.mem l' (by rw [← a.vars]; exact hl') id ((a.ok id).1 ho)
  low := by rw [a.occ]; exact h.low
  hc id ho := by
    have h1 := held_set a.occ a.vars a.truth hl id
    have h2 := h.hc id ((a.ok id).1 ho)
    have e1 : (heldP S id (code l)).toNat = 0 := by
      have : S.truth.getD (code l) false = false := hf.1
      unfold heldP
      rw [this, toNat_andf]
    have e2 : (heldP S' id (code l)).toNat = if id ∈ S.occ.getD (code l) [] then 1 else 0 := by
      unfold heldP
      rw [a.occ, a.truth, getD_set_eq (by rw [h.sh.truth]; exact hl.codeLt), toNat_and]
    rw [e1, e2] at h1
    rw [a.held id, h2]
    by_cases hm : id ∈ S.occ.getD (code l) []
    · rw [if_pos hm] at h1 ⊢; omega
    · rw [if_neg hm] at h1 ⊢; omega
  oc id ho := by
    have h1 := opn_set a.occ a.vars a.truth hl id
    have h2 := h.oc id ((a.ok id).1 ho)
    have e3 : flipC (code (-l)) = code l := by rw [code_neg hl.1, flip_flip]
    have e1 : (opnP S id (code (-l))).toNat = if id ∈ S.occ.getD (code (-l)) [] then 1 else 0 := by
      have : S.truth.getD (code l) false = false := hf.1
      unfold opnP
      rw [e3, this, Bool.not_false, toNat_and]
    have e2 : (opnP S' id (code (-l))).toNat = 0 := by
      unfold opnP
      rw [e3, a.truth, getD_set_eq (by rw [h.sh.truth]; exact hl.codeLt), Bool.not_true, toNat_andf]
    rw [e1, e2] at h1
    rw [a.opn id, h2]
    by_cases hm : id ∈ S.occ.getD (code (-l)) []
    · rw [if_pos hm] at h1 ⊢; omega
    · rw [if_neg hm] at h1 ⊢; omega
  tv l' hm := by
    rw [a.trail, List.mem_append, List.mem_singleton] at hm
    rw [a.vars]
    rcases hm with hm | rfl
    · exact h.tv l' hm
    · exact hl
  tn := by
    rw [a.trail, List.map_append, List.nodup_append]
    refine ⟨h.tn, by simp, fun x hx y hy e => ?_⟩
    rw [List.map_singleton, List.mem_singleton] at hy
    subst hy
    subst e
    exact free_vr h hl hf hx
  tt l' hl' := by
    rw [a.vars] at hl'
    unfold Sv.tr
    rw [a.truth, a.trail, List.mem_append, List.mem_singleton]
    by_cases e : l' = l
    · subst e
      rw [getD_set_eq (by rw [h.sh.truth]; exact hl.codeLt)]
      exact ⟨fun _ => Or.inr rfl, fun _ => rfl⟩
    · rw [getD_set_ne fun e' => e (code_inj hl'.1 hl.1 e'.symm)]
      exact (h.tt l' hl').trans ⟨Or.inl, fun h => h.elim (fun x => x) fun e' => absurd e' e⟩
  la := by rw [a.last, a.stamp]; exact h.la
  um := by rw [a.marked]; exact h.um
  qu id hm := by
    rw [a.ok]
    rcases (a.queue id).1 hm with hm | hm
    · exact h.qu id hm
    · exact h.ok _ id hm.1
end Go.Proofs.Ytnanofipjiclfaa
end PartQ3

section PartQ4
/- Plain facts on the solver's model: literals are taken back. -/
set_option linter.unusedSimpArgs false
set_option linter.unusedVariables false
namespace Go.Proofs.Ytnanofipjiclfaa
open Go Go.Ab

/-- Literals were taken back: n are left. -/
structure Rtr (S S' : Sv) (n : Nat) : Prop where
  vars : S'.vars = S.vars
  occ : S'.occ = S.occ
  last : S'.last = S.last
  stamp : S'.stamp = S.stamp
  trail : S'.trail = S.trail.take n
  starts : S'.starts = S.starts
  marked : S'.marked = S.marked
  steps : S'.steps = S.steps
  solves : S'.solves = S.solves
  queue : S'.queue = S.queue
  left : S'.left = S.left
  reasons : S'.reasons = S.reasons
  levels : S'.levels = S.levels
  nadded : S'.added.length = S.added.length
  nlearned : S'.learned.length = S.learned.length
  ok : ∀ id, okId S' id ↔ okId S id
  lits : ∀ id, (S'.cl id).lits = (S.cl id).lits
  first : S'.first ≤ S.first
  gone : ∀ l ∈ S.trail.drop n, S'.first ≤ vr l
  pos : 1 ≤ S.first → 1 ≤ S'.first
theorem drop1_fields {S : Sv} (h : Gd S) (l : Int) : (S.drop1 l).vars = S.vars ∧ (S.drop1 l).occ = S.occ ∧ (S.drop1 l).last = S.last ∧ (S.drop1 l).stamp = S.stamp ∧ (S.drop1 l).trail = S.trail.dropLast ∧ (S.drop1 l).truth = S.truth.set (code l) false ∧ (S.drop1 l).starts = S.starts ∧ (S.drop1 l).marked = S.marked ∧ (S.drop1 l).steps = S.steps ∧ (S.drop1 l).solves = S.solves ∧ (S.drop1 l).queue = S.queue ∧ (S.drop1 l).left = S.left ∧ (S.drop1 l).reasons = S.reasons ∧ (S.drop1 l).levels = S.levels ∧ (S.drop1 l).added.length = S.added.length ∧ (S.drop1 l).learned.length = S.learned.length ∧ (S.drop1 l).first = min S.first (vr l) ∧ (∀ id, (S.drop1 l).cl id = ⟨(S.cl id).lits, if id ∈ S.occ.getD (code (-l)) [] then (S.cl id).opn + 1 else (S.cl id).opn, if id ∈ S.occ.getD (code l) [] then (S.cl id).held + (-1) else (S.cl id).held⟩) := by
  have hd := drop1_eq S l
  have k1 : ∀ id, okId (drop0 S l) id ↔ okId S id := fun id => Iff.rfl
  have c1 : ∀ id, (drop0 S l).cl id = S.cl id := fun id => rfl
  generalize hS2 : holds (drop0 S l) (S.occ.getD (code l) []) (-1) = S2 at hd
  have sh2 : Shp (drop0 S l) S2 := by rw [← hS2]; exact Shp.holds _ _ _
  have c2 : ∀ k, S2.cl k = if k ∈ S.occ.getD (code l) [] then ⟨(S.cl k).lits, (S.cl k).opn, (S.cl k).held + (-1)⟩ else S.cl k := fun k => by
    rw [← hS2]; exact holds_cl (-1) (h.nd _) (fun i hi => (k1 i).2 (h.ok _ i hi)) k
  have k2 : ∀ id, okId S2 id ↔ okId S id := fun id => (sh2.ok id).trans (k1 id)
  have q2 : S2.queue = S.queue := by rw [← hS2, holds_queue]; rfl
  generalize hS3 : S.drop1 l = S3 at hd
  have sh3 : Shp S2 S3 := by rw [hd]; exact Shp.opens _ _ _
  have c3 : ∀ k, S3.cl k = if k ∈ S.occ.getD (code (-l)) [] then ⟨(S2.cl k).lits, (S2.cl k).opn + 1, (S2.cl k).held⟩ else S2.cl k := fun k => by
    rw [hd]; exact opens_cl 1 (h.nd _) (fun i hi => (k2 i).2 (h.ok _ i hi)) k
  have q3 : S3.queue = S.queue := by
    rw [hd, ← q2]
    exact foldl_fix (fun S : Sv => S.queue) (fun (S : Sv) (i : Nat) => S.openD i 1) (fun _ _ => rfl) _ S2
  have sh : Shp (drop0 S l) S3 := sh2.trans sh3
  have c : ∀ id, S3.cl id = ⟨(S.cl id).lits, if id ∈ S.occ.getD (code (-l)) [] then (S.cl id).opn + 1 else (S.cl id).opn, if id ∈ S.occ.getD (code l) [] then (S.cl id).held + (-1) else (S.cl id).held⟩ := fun id => by
    rw [c3 id, c2 id]
    by_cases h1 : id ∈ S.occ.getD (code (-l)) [] <;> by_cases h2 : id ∈ S.occ.getD (code l) []
    · simp only [if_pos h1, if_pos h2]
    · simp only [if_pos h1, if_neg h2]
    · simp only [if_neg h1, if_pos h2]
    · simp only [if_neg h1, if_neg h2]
  obtain ⟨ad, le, qu, e3, hn1, hn2⟩ := sh
  clear hS3 sh3 sh2 hS2 c3 c2 hd
  subst e3
  exact ⟨rfl, rfl, rfl, rfl, rfl, rfl, rfl, rfl, rfl, rfl, q3, rfl, rfl, rfl, hn1, hn2, rfl, c⟩

theorem drop1_gd {S : Sv} (h : Gd S) {t : List Int} {l : Int} (ht : S.trail = t ++ [l]) : Gd (S.drop1 l) := by
  obtain ⟨f1, f2, f3, f4, f5, f6, f7, f8, f9, f10, f11, f12, f13, f14, f15, f16, f17, f18⟩ := drop1_fields h l
  have hk : ∀ id, okId (S.drop1 l) id ↔ okId S id := fun id => drop1_ok S l id
  have hs := drop1_sh h.sh l
  have hl : LitV S.vars l := h.tv l (by rw [ht]; simp)
  have hlt : l ∈ S.trail := by rw [ht]; simp
  have ht1 : S.truth.getD (code l) false = true := (h.tt l hl).2 hlt
  have ht2 : S.truth.getD (code (-l)) false = false := by
    cases hb : S.truth.getD (code (-l)) false with
    | false => rfl
    | true => exact absurd ((h.tt _ hl.neg).1 hb) (h.not_both hlt)
  have e5 : (S.drop1 l).trail = t := by rw [f5, ht, List.dropLast_concat]
  have hnd := h.tn
  rw [ht, List.map_append, List.nodup_append] at hnd
  generalize S.drop1 l = S' at *
  have cl : code l < S.truth.length := by rw [h.sh.truth]; exact hl.codeLt
  exact {
    sh := hs
    v1 := by rw [f1]; exact h.v1
    na := by rw [f15]; exact h.na
    nl := by rw [f16]; exact h.nl
    lits := fun id ho => by rw [f18, f1]; exact h.lits id ((hk id).1 ho)
    ll := fun id ho => by rw [f18]; exact h.ll id ((hk id).1 ho)
    nd := by rw [f2]; exact h.nd
    ok := fun c id hm => (hk id).2 (h.ok c id (by rw [← f2]; exact hm))
    mem := fun l' hl' id ho => by rw [f2, f18]; exact h.mem l' (by rw [← f1]; exact hl') id ((hk id).1 ho)
    low := by rw [f2]; exact h.low
    hc := fun id ho => by
      have h1 := held_set f2 f1 f6 hl id
      have h2 := h.hc id ((hk id).1 ho)
      have e1 : (heldP S id (code l)).toNat = if id ∈ S.occ.getD (code l) [] then 1 else 0 := by
        unfold heldP
        rw [ht1, toNat_and]
      have e2 : (heldP S' id (code l)).toNat = 0 := by
        unfold heldP
        rw [f6, getD_set_eq cl, toNat_andf]
      rw [e1, e2] at h1
      rw [f18, h2]
      simp only
      by_cases hm : id ∈ S.occ.getD (code l) []
      · rw [if_pos hm] at h1 ⊢; omega
      · rw [if_neg hm] at h1 ⊢; omega
    oc := fun id ho => by
      have h1 := opn_set f2 f1 f6 hl id
      have h2 := h.oc id ((hk id).1 ho)
      have e3 : flipC (code (-l)) = code l := by rw [code_neg hl.1, flip_flip]
      have e1 : (opnP S id (code (-l))).toNat = 0 := by
        unfold opnP
        rw [e3, ht1, Bool.not_true, toNat_andf]
      have e2 : (opnP S' id (code (-l))).toNat = if id ∈ S.occ.getD (code (-l)) [] then 1 else 0 := by
        unfold opnP
        rw [e3, f2, f6, getD_set_eq cl, Bool.not_false, toNat_and]
      rw [e1, e2] at h1
      rw [f18, h2]
      simp only
      by_cases hm : id ∈ S.occ.getD (code (-l)) []
      · rw [if_pos hm] at h1 ⊢; omega
      · rw [if_neg hm] at h1 ⊢; omega
    tv := fun l' hm => by
      rw [e5] at hm
      rw [f1]
      exact h.tv l' (by rw [ht]; simp [hm])
    tn := by rw [e5]; exact hnd.1
    tt := fun l' hl' => by
      rw [f1] at hl'
      unfold Sv.tr
      rw [f6, e5]
      by_cases e : l' = l
      · subst e
        rw [getD_set_eq cl]
        exact ⟨fun h => Bool.noConfusion h, fun hm => absurd rfl (hnd.2.2 _ (List.mem_map_of_mem hm) _ (by simp))⟩
      · rw [getD_set_ne fun e' => e (code_inj hl'.1 hl.1 e'.symm)]
        rw [h.tr_iff hl', ht, List.mem_append, List.mem_singleton]
        exact ⟨fun h => h.elim (fun x => x) fun e' => absurd e' e, Or.inl⟩
    la := by rw [f3, f4]; exact h.la
    um := by rw [f8]; exact h.um
    qu := fun id hm => by
      rw [hk]
      rw [f11] at hm
      exact h.qu id hm }
theorem Rtr.refl {S : Sv} {n : Nat} (h : S.trail.length ≤ n) : Rtr S S n := ⟨rfl, rfl, rfl, rfl, (List.take_of_length_le h).symm, rfl, rfl, rfl, rfl, rfl, rfl, rfl, rfl, rfl, rfl, fun _ => Iff.rfl, fun _ => rfl, Nat.le_refl _, fun l hl => (by rw [List.drop_of_length_le h] at hl; cases hl), fun h => h⟩
theorem retract_gd : ∀ (k : Nat) {S : Sv} {n : Nat}, S.trail.length ≤ n + k → Gd S → Gd (S.retract n) ∧ Rtr S (S.retract n) n
  | 0, S, n, hk, h => by
    rw [retract_done (by omega)]
    exact ⟨h, Rtr.refl (by omega)⟩
  | k + 1, S, n, hk, h => by
    rcases Nat.lt_or_ge n S.trail.length with hn | hn
    · rw [retract_step hn]
      have hne : S.trail ≠ [] := fun e => by rw [e] at hn; simp at hn
      have ht : S.trail = S.trail.dropLast ++ [S.trail.getD (S.trail.length - 1) 0] := by
        have := List.dropLast_concat_getLast hne
        rw [List.getLast_eq_getElem] at this
        rw [List.getD_eq_getElem?_getD, List.getElem?_eq_getElem (by omega)]
        exact this.symm
      generalize S.trail.getD (S.trail.length - 1) 0 = l at ht ⊢
      have h' := drop1_gd h ht
      obtain ⟨f1, f2, f3, f4, f5, f6, f7, f8, f9, f10, f11, f12, f13, f14, f15, f16, f17, f18⟩ := drop1_fields h l
      have hk' : ∀ id, okId (S.drop1 l) id ↔ okId S id := fun id => drop1_ok S l id
      obtain ⟨r1, r2⟩ := retract_gd k (S := S.drop1 l) (n := n) (by rw [f5, List.length_dropLast]; omega) h'
      refine ⟨r1, ⟨r2.vars.trans f1, r2.occ.trans f2, r2.last.trans f3, r2.stamp.trans f4, ?_, r2.starts.trans f7, r2.marked.trans f8, r2.steps.trans f9, r2.solves.trans f10, r2.queue.trans f11, r2.left.trans f12, r2.reasons.trans f13, r2.levels.trans f14, r2.nadded.trans f15, r2.nlearned.trans f16, fun id => (r2.ok id).trans (hk' id), fun id => (r2.lits id).trans (by rw [f18]), ?_, ?_, fun h1 => r2.pos ?_⟩⟩
      · rw [r2.trail, f5]
        rw [ht, List.dropLast_concat]
        have : n ≤ S.trail.dropLast.length := by rw [List.length_dropLast]; omega
        rw [List.take_append_of_le_length this]
      · have := r2.first
        rw [f17] at this
        omega
      · intro x hx
        have hle : n ≤ S.trail.dropLast.length := by rw [List.length_dropLast]; omega
        rw [ht, List.drop_append_of_le_length hle, List.mem_append, List.mem_singleton] at hx
        rcases hx with hx | rfl
        · exact r2.gone x (by rw [f5]; exact hx)
        · have := r2.first
          rw [f17] at this
          omega
      · have hv := h.tv l (by rw [ht]; simp)
        unfold LitV at hv
        rw [f17]
        unfold vr
        omega
    · rw [retract_done hn]
      exact ⟨h, Rtr.refl hn⟩
theorem Gd.retract {S : Sv} (h : Gd S) (n : Nat) : Gd (S.retract n) ∧ Rtr S (S.retract n) n := retract_gd S.trail.length (by omega) h
/-- Queues and starts do not matter. -/
theorem Gd.starts {S : Sv} (h : Gd S) (s : List Nat) (q : List Nat) (hq : ∀ id ∈ q, okId S id) : Gd { S with starts := s, queue := q } := ⟨⟨h.sh.vars, h.sh.occ, h.sh.last, h.sh.truth, h.sh.reasons, h.sh.levels, h.sh.marked⟩, h.v1, h.na, h.nl, h.lits, h.ll, h.nd, h.ok, h.mem, h.low, h.hc, h.oc, h.tv, h.tn, h.tt, h.la, h.um, hq⟩
end Go.Proofs.Ytnanofipjiclfaa
end PartQ4

section PartT12
/- Lists in place: reversed; explain's closure. -/
set_option linter.unusedSimpArgs false
set_option linter.unusedVariables false
set_option maxRecDepth 100000
namespace Go.Proofs.Ytnanofipjiclfaa
open Go Go.Ab
variable {I : Sl → Nat} {S : Sv} {σ : St}

theorem getD_set {α : Type} {l : List α} {i j : Nat} {x d : α} (h : i < l.length) : (l.set i x).getD j d = if j = i then x else l.getD j d := by
  by_cases e : j = i
  · subst e; rw [if_pos rfl, List.getD_eq_getElem?_getD, List.getElem?_set, if_pos rfl, if_pos h]; rfl
  · rw [if_neg e]; exact getD_set_ne (Ne.symm e)
theorem getD_rev {l : List Int} {p : Nat} (h : p < l.length) : l.reverse.getD p 0 = l.getD (l.length - 1 - p) 0 := by
  rw [List.getD_eq_getElem?_getD, List.getElem?_reverse h, List.getD_eq_getElem?_getD]
theorem ext_getD {l m : List Int} (h1 : l.length = m.length) (h : ∀ p, p < l.length → l.getD p 0 = m.getD p 0) : l = m := by
  apply List.ext_getElem h1
  intro p q1 q2
  have := h p q1
  rw [List.getD_eq_getElem?_getD, List.getD_eq_getElem?_getD, List.getElem?_eq_getElem q1, List.getElem?_eq_getElem q2] at this
  exact this
set_option maxHeartbeats 4000000 in
theorem reverse_ac (id : Nat) (l : List Int) (ow : Option TypeId) (hl : l.length ≤ 1000000) (hσ : σ[id]? = some (some (.cells (intsA l)))) (G : Glob) (R : A → St → Prop) (h : ∀ r, R r (σ.set id (some (.cells (intsA l.reverse))))) : AC Try.prog G 61 [.rs id 1 0 l.length ow] σ R := by
  refine ac_enter mixed Try.func61 rfl Try.ntmps61 (by simp only [go_sem]) fun hbd => ?_
  simp only [List.length_cons, List.length_nil, Nat.reduceAdd, Nat.reduceSub, List.replicate_succ, List.replicate_zero, List.cons_append, List.nil_append]
  have w0 : IntKind.i64.wrap ((l.length : Int) - 1) = (l.length : Int) - 1 := wrap64_id _ (by omega) (by omega)
  simp only [go_sem, live_of hσ, w0, Try.results61]
  refine aw_loop (fun m fr st => ∃ (k : Nat) (l' : List Int), m = l.length - k ∧ k ≤ l.length ∧ l'.length = l.length ∧ (∀ p, p < l.length → l'.getD p 0 = if p < k ∨ l.length - k ≤ p then l.getD (l.length - 1 - p) 0 else l.getD p 0) ∧ 2 * k ≤ l.length + 1 ∧ st = σ.set id (some (.cells (intsA l'))) ∧ fr = [.rs id 1 0 l.length ow, .any, dn k, di ((l.length : Int) - 1 - k), .any, .any, .any, .any, .any, .any, .any, .any, .any, .any, .any, .any, .any, .any, .any, .any, .any, .any, .any, .any, .any, .any, .any, .any]) l.length _
    (Wk.mask [0, 2, 3] ⟨0, l, rfl, by omega, rfl, fun p hp => by rw [if_neg (by omega)], by omega, (set_idem hσ).symm, by simp; rfl⟩) ?_
  rintro m fr st ⟨k, l', hm, hk, hll, hpt, h2k, rfl, rfl⟩
  have h1 : (σ.set id (some (.cells (intsA l'))))[id]? = some (some (.cells (intsA l'))) := set_same hσ
  rcases Int.lt_or_le (k : Int) ((l.length : Int) - 1 - k) with hlt | hge
  · obtain ⟨j, hj⟩ : ∃ j : Nat, (l.length : Int) - 1 - k = (j : Int) := ⟨l.length - 1 - k, by omega⟩
    rw [hj] at hlt ⊢
    have hd : decide ((k : Int) < (j : Int)) = true := decide_eq_true hlt
    have w1 := wrapS k (by omega)
    have w2 : IntKind.i64.wrap ((j : Int) - 1) = (l.length : Int) - 1 - ((k + 1 : Nat) : Int) := by rw [wrap64_id _ (by omega) (by omega)]; omega
    have hk' : k < l'.length := by omega
    have hj' : j < l'.length := by omega
    have h2 : ((σ.set id (some (.cells (intsA (l'.set k (l'.getD j 0)))))))[id]? = some (some (.cells (intsA (l'.set k (l'.getD j 0))))) := set_same hσ
    have hj2 : j < (l'.set k (l'.getD j 0)).length := by simpa using hj'
    simp only [go_sem, hd, live_of h1, objK_of h1, live_of h2, objK_of h2, intsA_len, intsA_get hk', intsA_get hj', intsA_set _ hk', intsA_set _ hj2, List.set_set, w1, w2, Nat.mul_one, Try.results61]
    refine ⟨⟨by omega, by omega⟩, hj', ⟨by omega, by omega⟩, hk', ⟨by omega, by omega⟩, by omega, ⟨by omega, by omega⟩, hj2, Wk.mask [0, 2, 3] ⟨l.length - (k + 1), by omega, k + 1, (l'.set k (l'.getD j 0)).set j (l'.getD k 0), rfl, by omega, by simpa using hll, fun p hp => ?_, by omega, rfl, rfl⟩⟩
    rw [getD_set hj2, getD_set hk']
    have pk := hpt k (by omega)
    have pj := hpt j (by omega)
    have pp := hpt p hp
    rw [if_neg (by omega)] at pk pj
    by_cases e1 : p = j
    · subst e1
      rw [if_pos rfl, if_pos (by omega), pk]
      congr 1; omega
    · rw [if_neg e1]
      by_cases e2 : p = k
      · subst e2
        rw [if_pos rfl, if_pos (by omega), pj]
        congr 1; omega
      · rw [if_neg e2, pp]
        by_cases c : p < k ∨ l.length - k ≤ p
        · rw [if_pos c, if_pos (by omega)]
        · rw [if_neg c, if_neg (by omega)]
  · have hd : decide ((k : Int) < (l.length : Int) - 1 - k) = false := decide_eq_false (by omega)
    have e : l' = l.reverse := by
      refine ext_getD (by simpa using hll) fun p hp => ?_
      rw [getD_rev (by omega), hpt p (by omega)]
      split
      · rfl
      · congr 1; omega
    simp only [go_sem, hd, live_of h1, objK_of h1, Try.results61]
    rw [e]
    exact ⟨_, _, Weak.refl _ _ _ _, h _⟩
theorem markL_len (m : List Bool) (lits : List Int) (except : Int) : (Sv.markL m lits except).length = m.length := by
  unfold Sv.markL
  exact foldl_fix (fun m : List Bool => m.length) (fun (m : List Bool) (l : Int) => if l = except then m else m.set (vr l) true) (fun a b => by split <;> simp) lits m
theorem Sol.marked (h : Sol I S σ) {m : List Bool} (hl : m.length = S.marked.length) : Sol I { S with marked := m } (σ.set (I .marked) (some (.cells (boolsA m)))) :=
  h.put .marked trivial (fun t => by cases t <;> exact Iff.rfl) rfl fun t ht => by
    cases t <;> first | rfl | exact absurd rfl ht | simp only [ct, hl, valA, coreA]
set_option maxHeartbeats 4000000 in
theorem mark_ac (hS : Sol I S σ) (hs : Sh S) (ib : Nat) (hb : σ[ib]? = some (some (.cells [.ref (I .st) 0]))) (hbo : ib ≠ I .marked) (lits : List Int) (hl : ∀ l ∈ lits, LitV S.vars l) (hn : lits.length ≤ 1000000) (except : Int)
    (G : Glob) (R : A → St → Prop) (h : ∀ r, R r (σ.set (I .marked) (some (.cells (boolsA (Sv.markL S.marked lits except)))))) : AC Try.prog G 60 [.d (isD lits), di except, .ref ib 0] σ R := by
  have hv := hs.vars
  have h0 := hS.get .marked trivial
  unfold isD
  refine ac_enter' mixed Try.func60 rfl Try.ntmps60 (by simp only [go_sem]) fun hbd => ?_
  simp only [List.length_cons, List.length_nil, Nat.reduceAdd, Nat.reduceSub, List.replicate_succ, List.replicate_zero, List.cons_append, List.nil_append]
  simp only [go_sem, List.length_map, Try.results60]
  refine aw_loop (fun m fr st => ∃ (j : Nat), m = lits.length - j ∧ j ≤ lits.length ∧ st = σ.set (I .marked) (some (.cells (boolsA (Sv.markL S.marked (lits.take j) except)))) ∧ fr = [.any, di except, .ref ib 0, .any, .any, .any, .any, .d (isD lits), dn lits.length, dn j, .any, .any, .any, .any, .any, .any, .any, .any, .any, .any, .any, .any, .any, .any]) lits.length _
    (Wk.mask [1, 2, 7, 8, 9] ⟨0, rfl, by omega, (set_idem h0).symm, rfl⟩) ?_
  rintro m fr st ⟨j, hm, hj, rfl, rfl⟩
  have hml := markL_len S.marked (lits.take j) except
  have hS' := hS.marked hml
  have hb' : (σ.set (I .marked) (some (.cells (boolsA (Sv.markL S.marked (lits.take j) except)))))[ib]? = some (some (.cells [.ref (I .st) 0])) := by rw [set_other (Ne.symm hbo)]; exact hb
  rcases Nat.lt_or_ge j lits.length with hlt | hge
  · have hd : decide ((j : Int) < (lits.length : Int)) = true := by simp; omega
    have w2 := wrapS j (by omega)
    have hlv := hl _ (getD_mem 0 hlt)
    have g0 : List.getD (lits.map iD) j default = iD (lits.getD j 0) := getD_mapD hlt
    have hnx : Sv.markL S.marked (lits.take (j + 1)) except = if lits.getD j 0 = except then Sv.markL S.marked (lits.take j) except else (Sv.markL S.marked (lits.take j) except).set (vr (lits.getD j 0)) true := by
      unfold Sv.markL; rw [take_getD 0 hlt, List.foldl_append]; rfl
    generalize hmk : Sv.markL S.marked (lits.take j) except = mk at hS' hml hb' hnx
    have hvm : vr (lits.getD j 0) < mk.length := by rw [hml, hs.marked]; exact hlv.vrLt
    generalize lits.getD j 0 = l at hlv g0 hnx hvm
    have eb : (l != except) = !decide (l = except) := rfl
    unfold isD
    simp only [go_sem, List.length_map, hd, g0, eb, w2, Try.results60]
    refine ⟨⟨by omega, by omega⟩, fun c => ?_, fun c => ?_⟩
    · simp only [Bool.not_eq_true', decide_eq_false_iff_not] at c
      rw [if_neg c] at hnx
      refine aw_plan (.take 4 <| .pure 5 <| .tk 4 0 <| .tk 2 6 <| .done) (by kernel_rfl) ?_
      simp only [go_sem, Try.results60]
      refine exP (dn (vr l)) ⟨fun σ' => ?_, ?_⟩
      · simp only [go_sem, Try.results60]
        exact ac' (vr_ac l (hlv.big hv) _ _ _ ⟨rfl, rfl⟩)
      simp only [go_sem, live_of hb', objK_of hb', hS'.live .st, hS'.ob .st, hS'.live .marked, hS'.ob .marked, ct, boolsA_len, boolsA_set _ hvm, w2, List.set_set, Nat.mul_one, Try.results60]
      exact ⟨⟨by omega, by omega⟩, by omega, Wk.mask [1, 2, 7, 8, 9] ⟨lits.length - (j + 1), by omega, j + 1, rfl, by omega, by rw [hnx], rfl⟩⟩
    · simp only [Bool.not_eq_false', decide_eq_true_eq] at c
      rw [if_pos c] at hnx
      exact Wk.mask [1, 2, 7, 8, 9] ⟨lits.length - (j + 1), by omega, j + 1, rfl, by omega, by rw [hnx], rfl⟩
  · have hd : decide ((j : Int) < (lits.length : Int)) = false := by simp; omega
    rw [List.take_of_length_le hge]
    unfold isD
    simp only [go_sem, hd, Try.results60]
    exact ⟨_, _, Weak.refl _ _ _ _, h _⟩
end Go.Proofs.Ytnanofipjiclfaa
end PartT12

section PartT13
/- explain. -/
set_option linter.unusedSimpArgs false
set_option linter.unusedVariables false
set_option maxRecDepth 100000
namespace Go.Proofs.Ytnanofipjiclfaa
open Go Go.Ab
variable {I : Sl → Nat} {S : Sv} {σ : St}

theorem natsA_ints (l : List Nat) : natsA l = intsA (l.map fun n : Nat => (n : Int)) := by simp [natsA, intsA]
def wm (S : Sv) (m : List Bool) : Sv := { S with marked := m }
/-- While explain works: marks, decisions, hints. -/
structure Exp (I : Sl → Nat) (S : Sv) (σ : St) (p : List Bool × List Int × List Nat) (il ih : Nat) (st : St) : Prop where
  sol : Sol I (wm S p.1) st
  len : p.1.length = S.marked.length
  box : st[σ.length]? = some (some (.cells [.ref (I .st) 0]))
  d : st[il]? = some (some (.cells (intsA p.2.1)))
  h : st[ih]? = some (some (.cells (natsA p.2.2)))
  l1 : σ.length < il
  l2 : σ.length < ih
  ne : il ≠ ih
  keep : ∀ k, k < σ.length → (∀ s, has S s → k ≠ I s) → st[k]? = σ[k]?
  ge : σ.length ≤ st.length
  small : p.2.1.length ≤ 1000000 ∧ p.2.2.length ≤ 1000000
theorem Exp.app {p : List Bool × List Int × List Nat} {il ih : Nat} {st : St} (h : Exp I S σ p il ih st) (l : St) : Exp I S σ p il ih (st ++ l) := by
  have l0 := lt_of_some h.box
  have l1 := lt_of_some h.d
  have l2 := lt_of_some h.h
  have lg := h.ge
  exact ⟨h.sol.app l, h.len, by rw [List.getElem?_append_left l0]; exact h.box, by rw [List.getElem?_append_left l1]; exact h.d, by rw [List.getElem?_append_left l2]; exact h.h, h.l1, h.l2, h.ne, fun k hk hn => by rw [List.getElem?_append_left (by omega)]; exact h.keep k hk hn, by simp; omega, h.small⟩
theorem Exp.growD (hS : Sol I S σ) {mk : List Bool} {ds : List Int} {hs : List Nat} {il ih : Nat} {st : St} (h : Exp I S σ (mk, ds, hs) il ih st) (l : Int) (hl : ds.length + 1 ≤ 1000000) (n : Nat) (hn : n = st.length) : Exp I S σ (mk, ds ++ [l], hs) n ih (st.set il none ++ [some (.cells (intsA ds ++ [A.d (.int .i64 l)]))]) := by
  have l0 := lt_of_some h.box
  have l1 := lt_of_some h.d
  have l2 := lt_of_some h.h
  have lg := h.ge
  have g1 := h.l1
  have g2 := h.l2
  have hoff : ∀ s, has S s → I s ≠ il := fun s hs => by have := hS.lt s hs; omega
  have hset : ∀ k, k < st.length → k ≠ il → (st.set il none ++ [some (Ob.cells (intsA ds ++ [A.d (.int .i64 l)]))])[k]? = st[k]? := fun k hk hne => by
    rw [List.getElem?_append_left (by simpa using hk), set_other (Ne.symm hne)]
  refine ⟨(h.sol.set (fun s hs => hoff s (by cases s <;> exact hs)) none).app _, h.len, by rw [hset _ l0 (by omega)]; exact h.box, ?_, by rw [hset _ l2 (Ne.symm h.ne)]; exact h.h, by omega, h.l2, by omega, fun k hk hne => by rw [hset k (by omega) (by omega)]; exact h.keep k hk hne, by simp; omega, ⟨by simpa using hl, h.small.2⟩⟩
  rw [List.getElem?_append_right (by simp; omega), List.length_set, hn, Nat.sub_self, intsA_snoc]; rfl
theorem Exp.growH (hS : Sol I S σ) {mk : List Bool} {ds : List Int} {hs : List Nat} {il ih : Nat} {st : St} (h : Exp I S σ (mk, ds, hs) il ih st) (x : Nat) (hl : hs.length + 1 ≤ 1000000) (n : Nat) (hn : n = st.length) : Exp I S σ (mk, ds, hs ++ [x]) il n (st.set ih none ++ [some (.cells (natsA hs ++ [A.d (.int .i64 (x : Int))]))]) := by
  have l0 := lt_of_some h.box
  have l1 := lt_of_some h.d
  have l2 := lt_of_some h.h
  have lg := h.ge
  have g1 := h.l1
  have g2 := h.l2
  have hoff : ∀ s, has S s → I s ≠ ih := fun s hs => by have := hS.lt s hs; omega
  have hset : ∀ k, k < st.length → k ≠ ih → (st.set ih none ++ [some (Ob.cells (natsA hs ++ [A.d (.int .i64 (x : Int))]))])[k]? = st[k]? := fun k hk hne => by
    rw [List.getElem?_append_left (by simpa using hk), set_other (Ne.symm hne)]
  refine ⟨(h.sol.set (fun s hs => hoff s (by cases s <;> exact hs)) none).app _, h.len, by rw [hset _ l0 (by omega)]; exact h.box, by rw [hset _ l1 h.ne]; exact h.d, ?_, h.l1, by omega, by omega, fun k hk hne => by rw [hset k (by omega) (by omega)]; exact h.keep k hk hne, by simp; omega, ⟨h.small.1, by simpa using hl⟩⟩
  rw [List.getElem?_append_right (by simp; omega), List.length_set, hn, Nat.sub_self, natsA_snoc]; rfl
/-- Marks turn in place. -/
theorem Exp.mark (hS : Sol I S σ) {mk : List Bool} {ds : List Int} {hs : List Nat} {il ih : Nat} {st : St} (h : Exp I S σ (mk, ds, hs) il ih st) {m2 : List Bool} (hm : m2.length = mk.length) : Exp I S σ (m2, ds, hs) il ih (st.set (I .marked) (some (.cells (boolsA m2)))) := by
  have hm0 := hS.lt .marked
  have l1 := h.l1
  have l2 := h.l2
  exact ⟨h.sol.marked hm, hm.trans h.len, by rw [set_other (by omega)]; exact h.box, by rw [set_other (by omega)]; exact h.d, by rw [set_other (by omega)]; exact h.h, h.l1, h.l2, h.ne, fun q hq hn => by rw [set_other (Ne.symm (hn .marked trivial))]; exact h.keep q hq hn, by rw [List.length_set]; exact h.ge, h.small⟩
set_option maxHeartbeats 8000000 in
theorem explain_ac (hS : Sol I S σ) (hs : Sh S) (id : Nat) (hid : id < 1000000) (hok : okId S id) (except : Int)
    (hlits : ∀ id, okId S id → (∀ l ∈ (S.cl id).lits, LitV S.vars l) ∧ (S.cl id).lits.length ≤ 1000000)
    (htr : ∀ l ∈ S.trail, LitV S.vars l ∧ (¬ S.reasons.getD (vr l) 0 < 0 → okId S (S.reasons.getD (vr l) 0).toNat ∧ S.reasons.getD (vr l) 0 < 1000000)) (htl : S.trail.length ≤ 100000)
    (G : Glob) (R : A → St → Prop)
    (h : ∀ il σ', Sol I (wm S (S.explain id except).1) σ' → Stp Any I S σ I σ' → σ'[il]? = some (some (.cells (intsA (S.explain id except).2.1.reverse))) → (∀ s, has S s → I s ≠ il) → σ.length ≤ il → R (.tup [.rs il 1 0 (S.explain id except).2.1.length (some 3), .d (nsD (S.explain id except).2.2.reverse)]) σ') :
    AC Try.prog G 47 [.ref (I .st) 0, dn id, di except] σ R := by
  have hv := hs.vars
  have hlt := fun s (q : has S s) => hS.lt s q
  refine ac_enterC' [3, 4, 11, 15] mixed Try.func47 rfl Try.ntmps47 (by simp only [go_sem]) fun hbd => ?_
  simp only [List.length_cons, List.length_nil, Nat.reduceAdd, Nat.reduceSub, List.replicate_succ, List.replicate_zero, List.cons_append, List.nil_append]
  have hS1 := hS.app [some (.cells [.ref (I .st) 0])]
  have hbx : (σ ++ [some (.cells [.ref (I .st) 0])])[σ.length]? = some (some (.cells [.ref (I .st) 0])) := by rw [List.getElem?_append_right (by omega), Nat.sub_self]; rfl
  have hc := hS1.get (clS id) (has_cl S id)
  rw [ct_cl] at hc
  have g1 := clsA_lits hok
  rw [← cl_eq] at g1
  have hok' := hok
  unfold okId at hok'
  simp only [go_sem, hS.live .st, Try.results47]
  refine aw_cut (fun fr st => fr = [.any, dn id, .any, .ref σ.length 0, .any, .any, .d .nils, .d .nils, .fn (.func 60) [] [.ref σ.length 0], .any, .any, .any, .any, .any, .any, .any, .any, .any, .any, .any, .any, .any, .any, .any, .any, .any, .any, .any, .any, .any, .any, .any, .any, .any, .any, .any, .any, .any, .any, .any, .any, .any, .any, .any, .any, .any, .any, .any, .any, .any, .any, .any, .any, .any, .any, .any, .any, .any, .any, .any, .any, .any, .any, .any, .any, .any, .any, .any, .any, .any, .any, .any, .any, .any, .any, .any, .any, .any, .any, .any, .any, .any, .any, .any, .any, .any, .any, .any, .any, .any, .any, .any, .any, .any, .any, .any, .any, .any, .any, .any, .any, .any] ∧ ∃ m, m = Sv.markL S.marked (S.cl id).lits except ∧ st = (σ ++ [some (Ob.cells [.ref (I .st) 0])]).set (I .marked) (some (.cells (boolsA m)))) ?_ ?_
  · have hb1 : clI id * 3 < (clL S id).length * 3 := by omega
    simp only [go_sem, live_of hbx, objK_of hbx, Try.results47]
    refine ac' (at_ac hS1 id hid hok _ _ ?_)
    simp only [go_sem, live_of hbx, objK_of hbx, live_of hc, objK_of hc, clsA_len, g1, Try.results47]
    refine ⟨hb1, ac' (mark_ac hS1 hs σ.length hbx (by have := hlt .marked trivial; omega) _ (hlits id hok).1 (hlits id hok).2 except _ _ fun r => ?_)⟩
    simp only [go_sem, Try.results47]
    exact Wk.mask [1, 3, 6, 7, 8] ⟨rfl, _, rfl, rfl⟩
  rintro fr st ⟨rfl, m, hm, rfl⟩
  have hml := markL_len S.marked (S.cl id).lits except
  rw [← hm] at hml
  have hS2 : Sol I (wm S m) ((σ ++ [some (Ob.cells [.ref (I .st) 0])]).set (I .marked) (some (.cells (boolsA m)))) := hS1.marked hml
  have hbx2 : ((σ ++ [some (Ob.cells [.ref (I .st) 0])]).set (I .marked) (some (.cells (boolsA m))))[σ.length]? = some (some (.cells [.ref (I .st) 0])) := by rw [set_other (by have := hlt .marked trivial; omega)]; exact hbx
  have hkp : ∀ k, k < σ.length → (∀ s, has S s → k ≠ I s) → ((σ ++ [some (Ob.cells [.ref (I .st) 0])]).set (I .marked) (some (.cells (boolsA m))))[k]? = σ[k]? := fun k hk hn => by
    rw [set_other (Ne.symm (hn .marked trivial)), List.getElem?_append_left hk]
  have hln : ((σ ++ [some (Ob.cells [.ref (I .st) 0])]).set (I .marked) (some (.cells (boolsA m)))).length = σ.length + 1 := by simp
  generalize ((σ ++ [some (Ob.cells [.ref (I .st) 0])]).set (I .marked) (some (.cells (boolsA m)))) = st at hS2 hbx2 hkp hln
  unfold Sv.explain at h
  rw [← hm] at h
  clear hm g1 hok' hc hbx hS1
  refine aw_cut (fun fr st => ∃ il ih, fr = [.any, .any, .any, .ref σ.length 0, .any, .any, .rs il 1 0 0 (some 3), .rs ih 1 0 1 (some 3), .fn (.func 60) [] [.ref σ.length 0], .any, .any, .any, .any, .any, .any, .any, .any, .any, .any, .any, .any, .any, .any, .any, .any, .any, .any, .any, .any, .any, .any, .any, .any, .any, .any, .any, .any, .any, .any, .any, .any, .any, .any, .any, .any, .any, .any, .any, .any, .any, .any, .any, .any, .any, .any, .any, .any, .any, .any, .any, .any, .any, .any, .any, .any, .any, .any, .any, .any, .any, .any, .any, .any, .any, .any, .any, .any, .any, .any, .any, .any, .any, .any, .any, .any, .any, .any, .any, .any, .any, .any, .any, .any, .any, .any, .any, .any, .any, .any, .any, .any, .any] ∧ Exp I S σ (m, [], [id]) il ih st) ?_ ?_
  · simp only [go_sem, Try.results47]
    refine ⟨by simp only [maxLen]; omega, Wk.via (Weak.empty 6 1 (some 3) rfl) (Wk.mask [3, 6, 7, 8] ⟨_, _, rfl, ?_⟩)⟩
    refine ⟨?_, hml, ?_, ?_, ?_, ?_, ?_, ?_, fun k hk hn => ?_, ?_, ⟨by simp, by simp⟩⟩
    · exact (hS2.app _).app _
    · rw [List.getElem?_append_left (by simp; omega), List.getElem?_append_left (by omega)]; exact hbx2
    · rw [List.getElem?_append_right (by simp), Nat.sub_self]; rfl
    · rw [List.getElem?_append_left (by simp), List.getElem?_append_right (by omega), Nat.add_sub_cancel_left]; rfl
    · simp; omega
    · omega
    · simp
    · rw [List.getElem?_append_left (by simp; omega), List.getElem?_append_left (by omega)]; exact hkp k hk hn
    · simp; omega
  clear hS2 hbx2 hkp hln
  rintro fr st ⟨il, ih, rfl, hE⟩
  generalize hp0 : (m, ([] : List Int), [id]) = p0 at h hE
  have hp1 : p0.2.1.length = 0 ∧ p0.2.2.length = 1 := by rw [← hp0]; exact ⟨rfl, rfl⟩
  clear hp0 hml
  refine aw_cut (fun fr st => ∃ il ih, fr = [.any, .any, .any, .ref σ.length 0, .any, .any, .rs il 1 0 (S.trail.reverse.foldl S.expl1 p0).2.1.length (some 3), .rs ih 1 0 (S.trail.reverse.foldl S.expl1 p0).2.2.length (some 3), .any, .any, .any, .any, .any, .any, .any, .any, .any, .any, .any, .any, .any, .any, .any, .any, .any, .any, .any, .any, .any, .any, .any, .any, .any, .any, .any, .any, .any, .any, .any, .any, .any, .any, .any, .any, .any, .any, .any, .any, .any, .any, .any, .any, .any, .any, .any, .any, .any, .any, .any, .any, .any, .any, .any, .any, .any, .any, .any, .any, .any, .any, .any, .any, .any, .any, .any, .any, .any, .any, .any, .any, .any, .any, .any, .any, .any, .any, .any, .any, .any, .any, .any, .any, .any, .any, .any, .any, .any, .any, .any, .any, .any, .any] ∧ Exp I S σ (S.trail.reverse.foldl S.expl1 p0) il ih st) ?_ ?_
  · have hS2 := hE.sol
    have hbx2 := hE.box
    have w0 : IntKind.i64.wrap ((S.trail.length : Int) - 1) = (S.trail.length : Int) - 1 := wrap64_id _ (by omega) (by omega)
    simp only [go_sem, live_of hbx2, objK_of hbx2, hS2.live .st, hS2.ob .st, hS2.live .trail, ct, wm, w0, Try.results47]
    refine aw_loop (fun q fr st => ∃ (j il ih : Nat), j ≤ S.trail.length ∧ q = S.trail.length - j ∧ fr = [.any, .any, .any, .ref σ.length 0, .any, .any, .rs il 1 0 ((S.trail.reverse.take j).foldl S.expl1 p0).2.1.length (some 3), .rs ih 1 0 ((S.trail.reverse.take j).foldl S.expl1 p0).2.2.length (some 3), .fn (.func 60) [] [.ref σ.length 0], di ((S.trail.length : Int) - 1 - j), .any, .any, .any, .any, .any, .any, .any, .any, .any, .any, .any, .any, .any, .any, .any, .any, .any, .any, .any, .any, .any, .any, .any, .any, .any, .any, .any, .any, .any, .any, .any, .any, .any, .any, .any, .any, .any, .any, .any, .any, .any, .any, .any, .any, .any, .any, .any, .any, .any, .any, .any, .any, .any, .any, .any, .any, .any, .any, .any, .any, .any, .any, .any, .any, .any, .any, .any, .any, .any, .any, .any, .any, .any, .any, .any, .any, .any, .any, .any, .any, .any, .any, .any, .any, .any, .any, .any, .any, .any, .any, .any, .any] ∧ Exp I S σ ((S.trail.reverse.take j).foldl S.expl1 p0) il ih st ∧ ((S.trail.reverse.take j).foldl S.expl1 p0).2.1.length ≤ j ∧ ((S.trail.reverse.take j).foldl S.expl1 p0).2.2.length ≤ j + 1) S.trail.length _
      (Wk.mask [3, 6, 7, 8, 9] ⟨0, il, ih, by omega, by omega, by rw [List.take_zero, List.foldl_nil, hp1.1, hp1.2]; simp; rfl, hE, by rw [List.take_zero, List.foldl_nil, hp1.1]; exact Nat.le_refl _, by rw [List.take_zero, List.foldl_nil, hp1.2]; exact Nat.le_refl _⟩) ?_
    clear hE hS2 hbx2 il ih
    rintro q fr st ⟨j, il, ih, hj, hq, rfl, hE, hb1, hb2⟩
    rcases Nat.lt_or_ge j S.trail.length with hjl | hge
    · obtain ⟨k, hk⟩ : ∃ k : Nat, (S.trail.length : Int) - 1 - (j : Int) = (k : Int) := ⟨S.trail.length - 1 - j, by omega⟩
      have hkl : k < S.trail.length := by omega
      have hd : decide ((0 : Int) ≤ (k : Int)) = true := decide_eq_true (by omega)
      have w1 : IntKind.i64.wrap ((k : Int) - 1) = (S.trail.length : Int) - 1 - ((j + 1 : Nat) : Int) := by rw [wrap64_id _ (by omega) (by omega)]; omega
      have hrl : j < S.trail.reverse.length := by simpa using hjl
      have hrv : S.trail.reverse.getD j 0 = S.trail.getD k 0 := by rw [getD_rev hjl]; congr 1; omega
      have hnx : (S.trail.reverse.take (j + 1)).foldl S.expl1 p0 = S.expl1 ((S.trail.reverse.take j).foldl S.expl1 p0) (S.trail.getD k 0) := by rw [take_getD 0 hrl, List.foldl_append, hrv]; rfl
      obtain ⟨hlv, hlr⟩ := htr _ (getD_mem 0 hkl)
      have gk := intsA_get hkl
      rw [hk]
      generalize (S.trail.reverse.take j).foldl S.expl1 p0 = p at hE hnx hb1 hb2 ⊢
      generalize S.trail.getD k 0 = l at hlv hlr gk hnx
      obtain ⟨mk, ds, hsn⟩ := p
      simp only at hb1 hb2
      have hS2 := hE.sol
      have hbx2 := hE.box
      have hE1 := hE.d
      have hE2 := hE.h
      simp only at hS2 hE1 hE2
      have hml := hE.len
      simp only at hml
      have hvm : vr l < mk.length := by rw [hml, hs.marked]; exact hlv.vrLt
      have hvr : vr l < S.reasons.length := by rw [hs.reasons]; exact hlv.vrLt
      simp only [go_sem, hd, live_of hbx2, objK_of hbx2, hS2.live .st, hS2.ob .st, hS2.live .trail, hS2.ob .trail, ct, wm, intsA_len, gk, Nat.mul_one, Try.results47]
      refine ⟨⟨by omega, by omega⟩, hkl, ac' (vr_ac l (hlv.big hv) _ _ _ ?_)⟩
      simp only [go_sem, live_of hbx2, objK_of hbx2, hS2.live .st, hS2.ob .st, hS2.live .marked, hS2.ob .marked, ct, wm, boolsA_len, boolsA_get hvm, w1, gk, Nat.mul_one, Try.results47]
      refine ⟨⟨by omega, by omega⟩, hvm, fun c => ?_, fun c => ?_⟩
      · have hmf : mk.getD (vr l) false = false := by simpa using c
        have e : S.expl1 (mk, ds, hsn) l = (mk, ds, hsn) := by unfold Sv.expl1; rw [if_neg (by simp only; rw [hmf]; simp)]
        rw [e] at hnx
        exact Wk.mask [3, 6, 7, 8, 9] ⟨S.trail.length - (j + 1), by omega, j + 1, il, ih, by omega, rfl, by rw [hnx]; rfl, by rw [hnx]; exact hE, by rw [hnx]; exact Nat.le_succ_of_le hb1, by rw [hnx]; exact Nat.le_succ_of_le hb2⟩
      · have hmt : mk.getD (vr l) false = true := by simpa using c
        have e : S.expl1 (mk, ds, hsn) l = if S.reasons.getD (vr l) 0 < 0 then (mk.set (vr l) false, ds ++ [l], hsn) else (Sv.markL (mk.set (vr l) false) (S.cl (S.reasons.getD (vr l) 0).toNat).lits l, ds, hsn ++ [(S.reasons.getD (vr l) 0).toNat]) := by
          unfold Sv.expl1; rw [if_pos hmt]
        rw [e] at hnx
        have hE3 : Exp I S σ (mk.set (vr l) false, ds, hsn) il ih (st.set (I .marked) (some (.cells (boolsA (mk.set (vr l) false))))) := by
          have hm := hlt .marked trivial
          have l1 := hE.l1
          have l2 := hE.l2
          exact ⟨hS2.marked (by simp [wm]), by simpa using hml, by rw [set_other (by omega)]; exact hbx2, by rw [set_other (by omega)]; exact hE1, by rw [set_other (by omega)]; exact hE2, hE.l1, hE.l2, hE.ne, fun q hq hn => by rw [set_other (Ne.symm (hn .marked trivial))]; exact hE.keep q hq hn, by rw [List.length_set]; exact hE.ge, hE.small⟩
        refine aw_cut (fun fr st => fr = [.any, .any, .any, .ref σ.length 0, .any, .any, .rs il 1 0 ds.length (some 3), .rs ih 1 0 hsn.length (some 3), .fn (.func 60) [] [.ref σ.length 0], dn k, di l, dn (vr l), .any, .any, .any, .any, .any, .any, .any, .any, .any, .any, .any, .any, .any, .any, .any, .any, .any, .any, .any, .any, .any, .any, .any, .any, .any, .any, .any, .any, .any, .any, .any, .any, .any, .any, .any, .any, .any, .any, .any, .any, .any, .any, .any, .any, .any, .any, .any, .any, .any, .any, .any, .any, .any, .any, .any, .any, .any, .any, .any, .any, .any, .any, .any, .any, .any, .any, .any, .any, .any, .any, .any, .any, .any, .any, .any, .any, .any, .any, .any, .any, .any, .any, .any, .any, .any, .any, .any, .any, .any, .any] ∧ Exp I S σ (mk.set (vr l) false, ds, hsn) il ih st) ?_ ?_
        · simp only [go_sem, live_of hbx2, objK_of hbx2, hS2.live .st, hS2.ob .st, hS2.live .marked, hS2.ob .marked, ct, wm, boolsA_len, boolsA_set _ hvm, Nat.mul_one, Try.results47]
          exact ⟨⟨by omega, by omega⟩, by omega, Wk.mask [3, 6, 7, 8, 9, 10, 11] ⟨rfl, hE3⟩⟩
        clear hS2 hbx2 hE1 hE2 hE hE3
        rintro fr st ⟨rfl, hE⟩
        have hS2 := hE.sol
        have hbx2 := hE.box
        have hE1 := hE.d
        have hE2 := hE.h
        simp only at hS2 hE1 hE2
        have l1 := hE.l1
        have l2 := hE.l2
        have hne := hE.ne
        have ld := lt_of_some hE1
        have lh := lt_of_some hE2
        by_cases hr : S.reasons.getD (vr l) 0 < 0
        · rw [if_pos hr] at hnx
          have hd2 : decide (S.reasons.getD (vr l) 0 < 0) = true := decide_eq_true hr
          have h5 : (st ++ [some (.cells [di l])])[il]? = some (some (.cells (intsA ds))) := by rw [List.getElem?_append_left ld]; exact hE1
          have q0 : decide (il < st.length) = true := decide_eq_true ld
          simp only [go_sem, live_of hbx2, objK_of hbx2, hS2.live .st, hS2.ob .st, hS2.live .reasons, hS2.ob .reasons, live_of h5, objK_of h5, ct, wm, intsA_len, intsA_get hvr, hd2, w1, Nat.mul_one, Try.results47]
          have hE5 := (hE.app [some (.cells [di l])]).growD hS l (by omega) (st.length + 1) (by simp)
          exact ⟨⟨by omega, by omega⟩, hvr, ⟨by simp only [maxLen]; omega, by omega⟩, Wk.mask [3, 6, 7, 8, 9] ⟨S.trail.length - (j + 1), by omega, j + 1, st.length + 1, ih, by omega, rfl, by rw [hnx]; simp only [List.length_append, List.length_cons, List.length_nil]; rfl, by rw [hnx]; exact hE5, by rw [hnx]; simp only [List.length_append, List.length_cons, List.length_nil]; omega, by rw [hnx]; exact Nat.le_succ_of_le hb2⟩⟩
        · rw [if_neg hr] at hnx
          obtain ⟨hro, hrb⟩ := hlr hr
          obtain ⟨r, hrr⟩ : ∃ r : Nat, S.reasons.getD (vr l) 0 = (r : Int) := ⟨(S.reasons.getD (vr l) 0).toNat, by omega⟩
          have gr := intsA_get hvr
          rw [hrr] at gr hro hrb hnx
          rw [Int.toNat_natCast] at hro hnx
          have hd2 : decide ((r : Int) < 0) = false := decide_eq_false (by omega)
          have h5 : (st ++ [some (.cells [dn r])])[ih]? = some (some (.cells (natsA hsn))) := by rw [List.getElem?_append_left lh]; exact hE2
          have q0 : decide (ih < st.length) = true := decide_eq_true lh
          simp only [go_sem, live_of hbx2, objK_of hbx2, hS2.live .st, hS2.ob .st, hS2.live .reasons, hS2.ob .reasons, live_of h5, objK_of h5, ct, wm, intsA_len, natsA_len, gr, hd2, w1, Nat.mul_one, Try.results47]
          refine ⟨⟨by omega, by omega⟩, hvr, ⟨by omega, by omega⟩, hvr, ⟨by simp only [maxLen]; omega, by omega⟩, ?_⟩
          have hE5 := (hE.app [some (.cells [dn r])]).growH hS r (by omega) (st.length + 1) (by simp)
          generalize ((st ++ [some (Ob.cells [A.d (D.int IntKind.i64 (r : Int))])]).set ih none ++ [some (.cells (natsA hsn ++ [A.d (D.int IntKind.i64 (r : Int))]))]) = st5 at hE5
          generalize st.length + 1 = ih5 at hE5 ⊢
          have hS5 := hE5.sol
          have hbx5 := hE5.box
          simp only at hS5
          have hc5 := hS5.get (clS r) (has_cl _ r)
          rw [ct_cl] at hc5
          have hok5 : okId (wm S (mk.set (vr l) false)) r := hro
          have g1 := clsA_lits hok5
          rw [← cl_eq] at g1
          have hok' := hok5
          unfold okId at hok'
          refine aw_plan (.tk 9 0 <| .take 13 <| .tk 4 9 <| .take 14 <| .done) (by kernel_rfl) ?_
          simp only [go_sem, live_of hbx5, objK_of hbx5, hS5.live .st, hS5.ob .st, hS5.live .reasons, hS5.ob .reasons, ct, wm, intsA_len, gr, Nat.mul_one, Try.results47]
          refine ⟨⟨by omega, by omega⟩, hvr, ac' (at_ac hS5 r (by omega) hok5 _ _ ?_)⟩
          simp only [go_sem, live_of hbx5, objK_of hbx5, live_of hc5, objK_of hc5, clsA_len, g1, Nat.mul_one, Try.results47]
          have hl5 := hlits r hro
          refine ⟨by omega, ac' (mark_ac hS5 ⟨hs.1, hs.2, hs.3, hs.4, hs.5, hs.6, by simpa [wm, hml] using hml.trans hs.7⟩ σ.length hbx5 (by have := hlt .marked trivial; omega) _ hl5.1 hl5.2 l _ _ fun rr => ?_)⟩
          simp only [go_sem, w1, Try.results47]
          have hE6 := hE5.mark hS (markL_len (mk.set (vr l) false) (S.cl r).lits l)
          exact Wk.mask [3, 6, 7, 8, 9] ⟨S.trail.length - (j + 1), by omega, j + 1, il, ih5, by omega, rfl, by rw [hnx]; simp only [List.length_append, List.length_cons, List.length_nil]; rfl, by rw [hnx]; exact hE6, by rw [hnx]; exact Nat.le_succ_of_le hb1, by rw [hnx]; simp only [List.length_append, List.length_cons, List.length_nil]; omega⟩
    · obtain rfl : j = S.trail.length := by omega
      have hd : decide ((0 : Int) ≤ (S.trail.length : Int) - 1 - (S.trail.length : Int)) = false := decide_eq_false (by omega)
      have e : S.trail.reverse.take S.trail.length = S.trail.reverse := List.take_of_length_le (by simp)
      rw [e] at hE ⊢
      simp only [go_sem, hd, Try.results47]
      exact Wk.mask [3, 6, 7] ⟨il, ih, rfl, hE⟩
  clear hE
  rintro fr st ⟨il2, ih2, rfl, hE⟩
  generalize S.trail.reverse.foldl S.expl1 p0 = p at hE h
  obtain ⟨mk, ds, hsn⟩ := p
  have hE1 := hE.d
  have hE2 := hE.h
  have hsm := hE.small
  simp only at hE1 hE2 h hsm
  have l1 := hE.l1
  have l2 := hE.l2
  have hne := hE.ne
  have hoff1 : ∀ s, has S s → I s ≠ il2 := fun s hs => by have := hlt s hs; omega
  have hoff2 : ∀ s, has S s → I s ≠ ih2 := fun s hs => by have := hlt s hs; omega
  simp only [go_sem, Try.results47]
  refine ac' (reverse_ac il2 ds _ hsm.1 hE1 _ _ fun r => ?_)
  simp only [go_sem, Try.results47]
  have hE2' : (st.set il2 (some (.cells (intsA ds.reverse))))[ih2]? = some (some (.cells (intsA (hsn.map fun n : Nat => (n : Int))))) := by rw [set_other hne, ← natsA_ints]; exact hE2
  have hrl := reverse_ac ih2 (hsn.map fun n : Nat => (n : Int)) (some 3) (by simpa using hsm.2) hE2'
  rw [List.length_map] at hrl
  refine ac' (hrl _ _ fun r => ?_)
  simp only [go_sem, Try.results47]
  have h6 : ((st.set il2 (some (.cells (intsA ds.reverse)))).set ih2 (some (.cells (intsA (hsn.map fun n : Nat => (n : Int)).reverse))))[ih2]? = some (some (.cells (natsA hsn.reverse))) := by
    rw [natsA_ints, List.map_reverse]; exact set_same hE2'
  refine ret_via (Weak.freeze ih2 1 0 (hsn.reverse.map fun n : Nat => iD n) h6 (lies_nats hsn.reverse)) ⟨_, _, Weak.refl _ _ _ _, ?_⟩
  have e : A.frz ih2 1 0 (hsn.reverse.map fun n : Nat => iD n) (A.tup [A.rs il2 1 0 ds.length (some 3), A.rs ih2 1 0 hsn.length (some 3)]) = .tup [.rs il2 1 0 ds.length (some 3), .d (nsD hsn.reverse)] := by
    simp [A.frz, frzL, nsD, hne]
  rw [e]
  refine h il2 _ ?_ ⟨?_, rfl, fun _ => .inl rfl, fun k hk hn => ?_⟩ ?_ hoff1 (by omega)
  · exact (((hE.sol.set (fun s hs => hoff1 s (by cases s <;> exact hs)) _).set (fun s hs => hoff2 s (by cases s <;> exact hs)) _).set (fun s hs => hoff2 s (by cases s <;> exact hs)) _)
  · simp; exact hE.ge
  · rw [set_other (by omega), set_other (by omega), set_other (by omega)]
    exact hE.keep k hk hn
  · rw [set_other (Ne.symm hne), set_other (Ne.symm hne)]
    exact set_same hE1
end Go.Proofs.Ytnanofipjiclfaa
end PartT13
