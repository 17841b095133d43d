import Derived.Test.YtnanofipjiclfaaZ77
import Derived.Test.YtnanofipjiclfaaZ78
import Derived.Test.YtnanofipjiclfaaZ71

section PartX2
/- Solvers in a store, side by side; With; the contracts of Add and Solve from rest to rest. -/
set_option linter.unusedSimpArgs false
set_option linter.unusedVariables false
set_option maxRecDepth 100000
namespace Go.Proofs.Ytnanofipjiclfaa
open Go Go.Ab
variable {I : Sl → Nat} {S : Sv} {σ : St}

/-- A step has few hints: each but the last makes a new variable known. -/
theorem rup_len {cls : Nat → List Int} {n : Nat} : ∀ (hs : List Nat) (K A : List Int), rup cls K hs → (∀ h ∈ hs, ∀ m ∈ cls h, LitV n m) → (∀ l ∈ A, l ∈ K) → (A.map vr).Nodup → (∀ l ∈ A, LitV n l) → A.length + hs.length ≤ n + 1
  | [], _, _, h, _, _, _, _ => h.elim
  | [x], K, A, h, hc, ha, hn, hv => by
    have h1 := nodup_bound (n := n + 1) (l := 0 :: A.map vr) (List.nodup_cons.2 ⟨fun hm => by
      obtain ⟨a, ha', e⟩ := List.mem_map.1 hm
      have := hv a ha'
      unfold LitV at this
      unfold vr at e
      omega, hn⟩) fun y hy => by
      rcases List.mem_cons.1 hy with rfl | hy
      · omega
      · obtain ⟨a, ha', rfl⟩ := List.mem_map.1 hy
        exact (hv a ha').vrLt
    rw [List.length_cons, List.length_map] at h1
    exact h1
  | x :: y :: hs, K, A, h, hc, ha, hn, hv => by
    obtain ⟨l, h1, h2, h3, h4, h5⟩ := h
    have hlv := hc x (by simp) l h1
    have := rup_len (y :: hs) (K ++ [l]) (A ++ [l]) h5 (fun z hz => hc z (List.mem_cons_of_mem _ hz)) (fun z hz => by
      rcases List.mem_append.1 hz with hz | hz
      · exact List.mem_append_left _ (ha z hz)
      · exact List.mem_append_right _ hz) (by
      rw [List.map_append, List.nodup_append]
      refine ⟨hn, by simp, fun a ha' b hb e => ?_⟩
      simp only [List.map_cons, List.map_nil, List.mem_singleton] at hb
      subst hb; subst e
      obtain ⟨z, hz, e⟩ := List.mem_map.1 ha'
      rcases vr_code (hv z hz).1 hlv.1 e with rfl | rfl
      · exact h2 (ha _ hz)
      · exact h3 (ha _ hz)) (fun z hz => by
      rcases List.mem_append.1 hz with hz | hz
      · exact hv z hz
      · rw [List.mem_singleton] at hz; subst hz; exact hlv)
    rw [List.length_append, List.length_singleton] at this
    simp only [List.length_cons] at this ⊢
    omega
theorem Rest.szs {M : Nat} (h : Rest M S) : Szs S := by
  refine ⟨by rw [h.fin.sl]; exact h.fin.gd.nl, h.fin.gd.na, fun s hs => ?_⟩
  obtain ⟨k, hk, e⟩ := List.getElem_of_mem hs
  have hst := h.jst k hk
  have e' : S.steps.getD k ([], []) = s := by rw [List.getD_eq_getElem?_getD, List.getElem?_eq_getElem hk]; exact e
  rw [e'] at hst
  have h1 := h.fin.s12 s hs
  have h2 := rup_len s.2 (s.1.map (- ·)) [] hst.run (fun x hx => h.fin.gd.lits x (hst.ok x hx).1) (fun l hl => by cases hl) List.nodup_nil (fun l hl => by cases hl)
  have h3 := h.fin.gd.v1
  simp only [List.length_nil] at h2
  refine ⟨by omega, by omega, fun id hid => ?_⟩
  have := okId_lt h.fin.gd.na h.fin.gd.nl (hst.ok id hid).1
  omega
/-- What was there is there. -/
structure Old (σ st : St) : Prop where
  len : σ.length ≤ st.length
  eq : ∀ k, k < σ.length → st[k]? = σ[k]?
theorem Old.refl (σ : St) : Old σ σ := ⟨Nat.le_refl _, fun _ _ => rfl⟩
theorem Old.trans {σ s t : St} (h : Old σ s) (k : Old s t) : Old σ t := ⟨Nat.le_trans h.len k.len, fun i hi => by rw [k.eq i (by have := h.len; omega), h.eq i hi]⟩
theorem Old.split {σ st : St} (h : Old σ st) : st = σ ++ st.drop σ.length := by
  have : st.take σ.length = σ := by
    apply List.ext_getElem?
    intro i
    rcases Nat.lt_or_ge i σ.length with hi | hi
    · rw [List.getElem?_take_of_lt hi, h.eq i hi]
    · rw [List.getElem?_eq_none (by rw [List.length_take]; omega), List.getElem?_eq_none hi]
  conv => lhs; rw [← List.take_append_drop σ.length st, this]
theorem ret_old {G : Glob} {σ st : St} {x : D} {R : A → St → Prop} (hbd : Bd σ.length σ) (ho : Old σ st) (h : R (.d x) σ) : ∃ r σ', Weak G σ.length [.d x] st [r] σ' ∧ R r σ' := by
  rw [ho.split]
  exact ret_d hbd h
theorem old_app (σ l : St) : Old σ (σ ++ l) := ⟨by simp, fun k hk => List.getElem?_append_left hk⟩
/-- A solver that lies behind n0. -/
structure Hs (n0 : Nat) (I : Sl → Nat) (S : Sv) (st : St) : Prop where
  sol : Sol I S st
  low : ∀ s, has S s → n0 ≤ I s
theorem Stp.cut {X : Sl → Prop} {I I' : Sl → Nat} {σ st st' : St} (h : Stp X I S st I' st') (hl : ∀ s, has S s → σ.length ≤ I s) (ho : Old σ st) : Old σ st' :=
  ⟨Nat.le_trans ho.len h.len, fun k hk => by
    rw [h.keep k (Nat.lt_of_lt_of_le hk ho.len) fun s hs e => by have := hl s hs; omega]
    exact ho.eq k hk⟩
theorem Hs.step {n0 : Nat} {X : Sl → Prop} {I I' : Sl → Nat} {S S' : Sv} {st st' : St} (h : Hs n0 I S st) (hn : n0 ≤ st.length) (k : Stp X I S st I' st') (hs : Sol I' S' st') (hh : ∀ s, has S s ↔ has S' s) : Hs n0 I' S' st' :=
  ⟨hs, fun s hs' => by
    have := h.low s ((hh s).2 hs')
    rcases k.ids s with e | e
    · omega
    · omega⟩
theorem Hs.weak {n0 n1 : Nat} {st : St} (h : Hs n1 I S st) (hn : n0 ≤ n1) : Hs n0 I S st := ⟨h.sol, fun s hs => Nat.le_trans hn (h.low s hs)⟩
/-- Two solvers. -/
structure Two (I : Sl → Nat) (S : Sv) (J : Sl → Nat) (T : Sv) (st : St) : Prop where
  a : Sol I S st
  b : Sol J T st
  d : ∀ s t, has S s → has T t → I s ≠ J t
theorem Two.symm {J : Sl → Nat} {T : Sv} {st : St} (h : Two I S J T st) : Two J T I S st := ⟨h.b, h.a, fun s t hs ht e => h.d t s ht hs e.symm⟩
theorem Two.fst {X : Sl → Prop} {I' J : Sl → Nat} {S' T : Sv} {st st' : St} (h : Two I S J T st) (k : Stp X I S st I' st') (k' : Sol I' S' st') (hh : ∀ s, has S s ↔ has S' s) : Two I' S' J T st' := by
  refine ⟨k', ⟨fun t ht => ?_, h.b.inj⟩, fun s t hs ht e => ?_⟩
  · rw [k.keep _ (h.b.lt t ht) fun s hs e => h.d s t hs ht e.symm]
    exact h.b.get t ht
  · rcases k.ids s with e' | e'
    · exact h.d s t ((hh s).2 hs) ht (by rw [← e', e])
    · have := h.b.lt t ht
      omega
theorem Stp.off {X : Sl → Prop} {I' : Sl → Nat} {S' : Sv} {st st' : St} {i : Nat} (k : Stp X I S st I' st') (hi : i < st.length) (hn : ∀ s, has S s → I s ≠ i) (hh : ∀ s, has S s ↔ has S' s) : ∀ s, has S' s → I' s ≠ i := fun s hs e => by
  rcases k.ids s with e' | e'
  · exact hn s ((hh s).2 hs) (by rw [← e', e])
  · omega
theorem has_vars {S S' : Sv} (g : Gd S) (g' : Gd S') (h : S'.vars = S.vars) : ∀ s, has S s ↔ has S' s := SameOcc.has (by unfold SameOcc; rw [g.sh.occ, g'.sh.occ, h])
def addAll (n : Nat) (C : List (List Int)) : Sv := C.foldl Sv.add (newS n)
/-- A solver at rest with its clauses. -/
structure Cls (M n : Nat) (C : List (List Int)) (S : Sv) : Prop where
  rest : Rest M S
  vars : S.vars = n
  cls : S.cls = C
theorem Cls.na {M n : Nat} {C : List (List Int)} (h : Cls M n C S) : S.added.length = C.length := by rw [← h.cls]; simp [Sv.cls]
theorem Cls.add {M n : Nat} {C : List (List Int)} (h : Cls M n C S) {c : List Int} (hv : ∀ l ∈ c, LitV n l) (hc : c.length ≤ 1000000) (hC : C.length < 40000) : Cls (M + 1) n (C ++ [c]) (S.add c) ∧ (S.add c).used = S.used ∧ (S.add c).steps = S.steps := by
  have hv' : ∀ l ∈ c, LitV S.vars l := by rw [h.vars]; exact hv
  have ha : S.added.length < 40000 := by rw [h.na]; exact hC
  obtain ⟨a1, a2, a3, a4, a5, a6, a7⟩ := add_gw h.rest.fin.gd hv' ha
  exact ⟨⟨h.rest.add hv' hc ha, a1.trans h.vars, by rw [a5, h.cls]⟩, (fl_add S c).used, a2⟩
theorem addAll_from {n : Nat} : ∀ (D : List (List Int)) {M : Nat} {C : List (List Int)} {S : Sv}, Cls M n C S → C.length + D.length ≤ 40000 → (∀ c ∈ D, (∀ l ∈ c, LitV n l) ∧ c.length ≤ 1000000) → Cls (M + D.length) n (C ++ D) (D.foldl Sv.add S) ∧ (D.foldl Sv.add S).used = S.used ∧ (D.foldl Sv.add S).steps = S.steps
  | [], M, C, S, h, _, _ => ⟨by rw [List.append_nil]; exact h, rfl, rfl⟩
  | c :: D, M, C, S, h, hl, hv => by
    rw [List.length_cons] at hl
    obtain ⟨h1, h2, h3⟩ := h.add (hv c (by simp)).1 (hv c (by simp)).2 (by omega)
    obtain ⟨k1, k2, k3⟩ := addAll_from D h1 (by rw [List.length_append, List.length_singleton]; omega) fun d hd => hv d (List.mem_cons_of_mem _ hd)
    rw [List.foldl_cons]
    refine ⟨?_, k2.trans h2, k3.trans h3⟩
    have e1 : M + (c :: D).length = M + 1 + D.length := by rw [List.length_cons]; omega
    have e2 : C ++ c :: D = C ++ [c] ++ D := by simp
    rw [e1, e2]; exact k1
theorem addAll_cls (n : Nat) (hn : n ≤ 100) (C : List (List Int)) (hl : C.length ≤ 40000) (hv : ∀ c ∈ C, (∀ l ∈ c, LitV n l) ∧ c.length ≤ 1000000) : Cls C.length n C (addAll n C) ∧ (addAll n C).used = 0 ∧ (addAll n C).steps = [] := by
  have := addAll_from C (M := 0) (C := []) (S := newS n) ⟨new_rest n hn, rfl, rfl⟩ (by simpa using hl) hv
  rw [List.nil_append, Nat.zero_add] at this
  exact this
/-- Add, at rest. -/
theorem add_rest {M n : Nat} {C : List (List Int)} (hS : Sol I S σ) (h : Cls M n C S) (hM : M ≤ 1000000) (c : List Int) (hc : c.length ≤ 1000000) (hC : C.length < 40000) (G : Glob) (R : A → St → Prop) (h0 : c.all S.valid = false → R (di 210) σ) (h1 : c.all S.valid = true → ∀ I' σ', Sol I' (S.add c) σ' → Stp Any I S σ I' σ' → R (di 0) σ') : AC Try.prog G 12 [.ref (I .st) 0, .d (isD c)] σ R := by
  have g := h.rest.fin.gd
  have h2 := h.rest.fin.stm
  have h3 := g.nl
  exact add_ac hS g.sh c hc (by rw [h.na]; exact hC) (fun d => by have := g.occLen d; omega) (by omega) G R h0 h1
theorem valid_all {n : Nat} (hv : S.vars = n) {c : List Int} : c.all S.valid = true ↔ ∀ l ∈ c, LitV n l := by
  rw [List.all_eq_true]
  exact ⟨fun h l hl => hv ▸ valid_lit.1 (h l hl), fun h l hl => valid_lit.2 (hv.symm ▸ h l hl)⟩
theorem validB_iff {n : Nat} {c : List Int} : validB (n : Int) c = true ↔ ∀ l ∈ c, LitV n l := by
  unfold validB
  rw [List.all_eq_true]
  have : ∀ l, litB (n : Int) l = true ↔ LitV n l := fun l => by
    unfold litB LitV
    simp only [Bool.not_eq_true', Bool.or_eq_false_iff, beq_eq_false_iff_ne, ne_eq, decide_eq_false_iff_not]
    omega
  exact ⟨fun h l hl => (this l).1 (h l hl), fun h l hl => (this l).2 (h l hl)⟩
theorem with_ac (n : Nat) (hn : n ≤ 100) (C : List (List Int)) (hl : C.length ≤ 1000) (hv : ∀ c ∈ C, (∀ l ∈ c, LitV n l) ∧ c.length ≤ 1000000) (σ : St) (G : Glob) (R : A → St → Prop)
    (h : ∀ I σ', Hs σ.length I (addAll n C) σ' → Old σ σ' → R (.ref (I .st) 0) σ') : AC Try.prog G 21 [dn n, .d (csD C)] σ R := by
  unfold csD
  refine ac_enter mixed Try.func21 rfl Try.ntmps21 (by simp only [go_sem]) fun hbd => ?_
  simp only [List.length_cons, List.length_nil, Nat.reduceAdd, Nat.reduceSub, List.replicate_succ, List.replicate_zero, List.cons_append, List.nil_append]
  simp only [go_sem, Try.results21]
  refine ac' (new_ac n (by omega) _ _ _ fun I0 σ0 k1 k2 k3 k4 => ?_)
  simp only [go_sem, Try.results21]
  refine aw_loop (fun m fr st => ∃ (j : Nat) (I : Sl → Nat), j ≤ C.length ∧ m = C.length - j ∧ fr = [dn n, .d (csD C), .any, .any, .d .nilp, .ref (I .st) 0, dn j, .any, .any, .any, .any, .any, .any, .any, .any, .any, .any, .any, .any, .any, .any, .any, .any] ∧ Hs σ.length I (addAll n (C.take j)) st ∧ Old σ st) C.length _
    (Wk.mask [0, 1, 4, 5, 6] ⟨0, I0, by omega, by omega, rfl, ⟨k1, k2⟩, ⟨k4, k3⟩⟩) ?_
  rintro m fr st ⟨j, I, hj, hm, rfl, hs, ho⟩
  unfold csD
  rcases Nat.lt_or_ge j C.length with hlt | hge
  · have hd : decide ((j : Int) < (C.length : Int)) = true := by simp; omega
    have w2 := wrapS j (by omega)
    have g0 : List.getD (C.map isD) j default = isD (C.getD j []) := getD_mapD hlt
    have hcl := hv _ (getD_mem [] hlt)
    obtain ⟨hC, hu, hst⟩ := addAll_cls n hn (C.take j) (by rw [List.length_take]; omega) fun c hc => hv c (List.mem_of_mem_take hc)
    have hnx : addAll n (C.take (j + 1)) = (addAll n (C.take j)).add (C.getD j []) := by
      unfold addAll
      rw [take_getD [] hlt, List.foldl_append]; rfl
    have hlen : (C.take j).length = j := by rw [List.length_take]; omega
    rw [hlen] at hC
    simp only [go_sem, List.length_map, hd, g0, w2, isD, Try.results21]
    refine ⟨⟨by omega, by omega⟩, ac' (add_rest hs.sol hC (by omega) (C.getD j []) hcl.2 (by omega) _ _ (fun e => ?_) fun _ I' σ' m1 m2 => ?_)⟩
    · rw [(valid_all hC.vars).2 hcl.1] at e; cases e
    · obtain ⟨hC2, -, -⟩ := hC.add hcl.1 hcl.2 (by omega)
      have hh := has_vars hC.rest.fin.gd hC2.rest.fin.gd (hC2.vars.trans hC.vars.symm)
      have e1 : ((0 : Int) == 0) = true := rfl
      simp only [go_sem, w2, Try.results21]
      rw [← m2.st]
      refine ⟨fun e => (by cases e), fun _ => Wk.mask [0, 1, 4, 5, 6] ⟨C.length - (j + 1), by omega, j + 1, I', by omega, rfl, rfl, ?_, m2.cut hs.low ho⟩⟩
      rw [hnx]
      exact hs.step ho.len m2 m1 hh
  · have hd : decide ((j : Int) < (C.length : Int)) = false := by simp; omega
    have : C.take j = C := List.take_of_length_le hge
    rw [this] at hs
    simp only [go_sem, List.length_map, hd, Try.results21]
    exact ⟨_, _, Weak.refl _ _ _ _, h _ _ hs ho⟩
/-- Solve, from rest to rest. -/
theorem solve_rest {M n b : Nat} {C : List (List Int)} (hS : Sol I S σ) (h : Cls M n C S) (hM : M ≤ 900000) (hu : S.used ≤ 100000000000) (hb : b ≤ 12) (hi : Inp b S) (asm : List Int) (hal : asm.length ≤ 1000000) (hab : ∀ l ∈ asm, LitV n l → vr l ≤ b) (fuel : Int) (G : Glob) (R : A → St → Prop)
    (h1 : fuel < 0 ∨ 1000000 < fuel → ∀ I' σ', Sol I' S.reset σ' → Stp Any I S σ I' σ' → R (.tup [di 0, di 1]) σ') (h2 : asm.all S.valid = false → ∀ I' σ', Sol I' S.reset σ' → Stp Any I S σ I' σ' → R (.tup [di 0, di 210]) σ')
    (h3 : ∀ F : Nat, fuel = F → F ≤ 1000000 → asm.all S.valid = true → ∀ m r, m = pot b (S.head asm F) false + 1 + 8000000 → Sv.srch (S.start asm F).2 m (S.head asm F) 0 0 = some r → Slv b M asm F S (r.1.finish F) r.2 → Cls (M + 1) n C (r.1.finish F) → ∀ I' σ', Sol I' (r.1.finish F) σ' → Stp Any I S σ I' σ' → R (.tup [di r.2, di 0]) σ') :
    AC Try.prog G 13 [.ref (I .st) 0, .d (isD asm), di fuel] σ R := by
  have g := h.rest.fin.gd
  refine solve_ac hS g asm hal fuel (by have := h.rest.fin.stm; have := g.nl; omega) hu h.rest.queue b (M + 1) hb (by omega) G R h1 h2 fun F hF hFl hval => ?_
  have hv : ∀ l ∈ asm, LitV S.vars l := by rw [h.vars]; exact (valid_all h.vars).1 hval
  have hbv : ∀ l ∈ asm, vr l ≤ b := fun l hl => hab l hl ((valid_all h.vars).1 hval l hl)
  have B := rest_begin h.rest hv hbv hi hFl
  obtain ⟨m, r, hm, hr, k1, k2, k3, k4, k5, k6⟩ := solve_spec hb h.rest hv hbv hi hFl
  exact ⟨B.gd, B.q, Nat.le_trans B.len hal, B.sr, m, r, hr, k1, k2, k3, k4, by rw [k5]; omega, h3 F hF hFl hval m r hm hr k6 ⟨k6.rest, k6.gw.vars.trans h.vars, (k6.gw.cls g.na).trans h.cls⟩⟩
theorem Cls.has {M M' n : Nat} {C C' : List (List Int)} {S S' : Sv} (h : Cls M n C S) (h' : Cls M' n C' S') : ∀ s, has S s ↔ has S' s := has_vars h.rest.fin.gd h'.rest.fin.gd (h'.vars.trans h.vars.symm)
end Go.Proofs.Ytnanofipjiclfaa
end PartX2

section PartQ27
/- Plain facts on the solver's model: verdicts. -/
set_option linter.unusedSimpArgs false
set_option linter.unusedVariables false
namespace Go.Proofs.Ytnanofipjiclfaa
open Go Go.Ab
variable {b M F : Nat} {asm : List Int} {S N : Sv} {v : Int}

theorem Slv.sat (h : Slv b M asm F S N v) (hv : v = 1) : SatA S.cls asm := ⟨_, (h.yes hv).2.2.2⟩
theorem SatA.mono {C : List (List Int)} {a c : List Int} (h : SatA C a) (hc : ∀ l ∈ c, l ∈ a) : SatA C c := by
  obtain ⟨β, h1, h2⟩ := h
  exact ⟨β, h1, fun l hl => h2 l (hc l hl)⟩
theorem Slv.unsat (h : Slv b M asm F S N v) (hv : v = 2) : ¬ SatA S.cls asm := fun hs => by
  obtain ⟨-, -, n1, -, -, n2, -⟩ := h.no hv
  exact n2 (hs.mono n1)
theorem Slv.done (h : Slv b M asm F S N v) (hF : 2 ^ b * (S.vars + 1) ≤ F) (hs : N.steps.length < pmax) : v ≠ 0 := fun hv => by
  obtain ⟨-, -, h1⟩ := h.und hv
  rcases h1 with h1 | h1 <;> omega
theorem Slv.isYes (h : Slv b M asm F S N v) (h0 : v ≠ 0) (hs : SatA S.cls asm) : v = 1 := by
  rcases h.v3 with e | e | e
  · exact absurd e h0
  · exact e
  · exact absurd hs (h.unsat e)
theorem Slv.isNo (h : Slv b M asm F S N v) (h0 : v ≠ 0) (hs : ¬ SatA S.cls asm) : v = 2 := by
  rcases h.v3 with e | e | e
  · exact absurd e h0
  · exact absurd (h.sat e) hs
  · exact e
theorem TT.pos {β : Nat → Bool} {n : Nat} (h : 0 < n) : TT β (n : Int) ↔ β n = true := by
  unfold TT
  have e : vr (n : Int) = n := by unfold vr; omega
  rw [e, decide_eq_true (by omega)]
  exact ⟨fun h => h.2, fun h' => ⟨by omega, h'⟩⟩
theorem TT.negp {β : Nat → Bool} {n : Nat} (h : 0 < n) : TT β (-(n : Int)) ↔ β n = false := by
  unfold TT
  have e : vr (-(n : Int)) = n := by unfold vr; omega
  rw [e, decide_eq_false (by omega)]
  exact ⟨fun h => h.2, fun h' => ⟨by omega, h'⟩⟩
-- the fixed examples
def hd0 : List (List Int) := [[1, 2], [-1, 2], [1, -2]]
theorem tt1 {β : Nat → Bool} : TT β 1 ↔ β 1 = true := TT.pos (n := 1) (by decide)
theorem tt2 {β : Nat → Bool} : TT β 2 ↔ β 2 = true := TT.pos (n := 2) (by decide)
theorem tn1 {β : Nat → Bool} : TT β (-1) ↔ β 1 = false := TT.negp (n := 1) (by decide)
theorem tn2 {β : Nat → Bool} : TT β (-2) ↔ β 2 = false := TT.negp (n := 2) (by decide)
theorem hd0_iff {β : Nat → Bool} : SatC β hd0 ↔ β 1 = true ∧ β 2 = true := by
  have e : SatC β hd0 ↔ (TT β 1 ∨ TT β 2) ∧ (TT β (-1) ∨ TT β 2) ∧ (TT β 1 ∨ TT β (-2)) := by simp [SatC, hd0]
  rw [e, tt1, tt2, tn1, tn2]
  cases β 1 <;> cases β 2 <;> simp
theorem hd0_yes : SatA hd0 [] := ⟨fun _ => true, hd0_iff.2 ⟨rfl, rfl⟩, fun l hl => (by cases hl)⟩
theorem hd0_no : ¬ SatA hd0 [-2, 1, -2] := by
  rintro ⟨β, h1, h2⟩
  have := tn2.1 (h2 (-2) (by simp))
  rw [(hd0_iff.1 h1).2] at this; cases this
def hd1 : List (List Int) := hd0 ++ [[-1, -2, -1]]
theorem hd1_no : ¬ SatA hd1 [] := by
  rintro ⟨β, h1, -⟩
  have h0 := hd0_iff.1 fun c hc => h1 c (List.mem_append_left _ hc)
  obtain ⟨m, hm, hm2⟩ := h1 [-1, -2, -1] (by simp [hd1])
  simp only [List.mem_cons, List.not_mem_nil, or_false] at hm
  rcases hm with rfl | rfl | rfl
  · rw [tn1, h0.1] at hm2; cases hm2
  · rw [tn2, h0.2] at hm2; cases hm2
  · rw [tn1, h0.1] at hm2; cases hm2
theorem nil_yes : SatA [] [] := ⟨fun _ => true, fun c hc => (by cases hc), fun l hl => (by cases hl)⟩
end Go.Proofs.Ytnanofipjiclfaa
end PartQ27

section PartX3
/- head. -/
set_option linter.unusedSimpArgs false
set_option linter.unusedVariables false
set_option maxRecDepth 100000
namespace Go.Proofs.Ytnanofipjiclfaa
open Go Go.Ab
variable {I : Sl → Nat} {S : Sv} {σ : St}

theorem nilA_asm {r : A} {F : Int} : NilAL [r, .d .nils, di F] [r, .d (isD []), di F] := NilAL.cons (.refl _) (NilAL.cons (.d (.nil 1)) (NilAL.cons (.refl _) .nil))
/-- A solver beside what was there; u, s bound the fuel used and the steps. -/
structure Hed (σ : St) (n M : Nat) (C : List (List Int)) (u s : Nat) (I : Sl → Nat) (S : Sv) (st : St) : Prop where
  hs : Hs σ.length I S st
  old : Old σ st
  cls : Cls M n C S
  used : S.used ≤ u
  steps : S.steps.length ≤ s
theorem Hed.step {n M M' : Nat} {C C' : List (List Int)} {u s u' s' : Nat} {X : Sl → Prop} {I' : Sl → Nat} {S' : Sv} {st st' : St} (h : Hed σ n M C u s I S st) (k : Stp X I S st I' st') (hs : Sol I' S' st') (hc : Cls M' n C' S') (hu : S'.used ≤ u') (hst : S'.steps.length ≤ s') : Hed σ n M' C' u' s' I' S' st' :=
  ⟨h.hs.step h.old.len k hs (h.cls.has hc), k.cut h.hs.low h.old, hc, hu, hst⟩
theorem hed_solveG {n M : Nat} {C : List (List Int)} {u s : Nat} {st : St} (hH : Hed σ n M C u s I S st) (hM : M ≤ 900000) (hu : u ≤ 100000000000) (hn : n ≤ 12) (asm : List Int) (hal : asm.length ≤ 1000000) (hv : ∀ l ∈ asm, LitV n l) (F : Nat) (hF : F ≤ 1000000) (G : Glob) (R : A → St → Prop)
    (h : ∀ m r, m = pot n (S.head asm F) false + 1 + 8000000 → Sv.srch (S.start asm F).2 m (S.head asm F) 0 0 = some r → Slv n M asm F S (r.1.finish F) r.2 → ∀ I' st', Hed σ n (M + 1) C (u + F) (s + 2 ^ n) I' (r.1.finish F) st' → Stp Any I S st I' st' → R (.tup [di r.2, di 0]) st') : AC Try.prog G 13 [.ref (I .st) 0, .d (isD asm), dn F] st R := by
  have hvs := hH.cls.vars
  refine solve_rest hH.hs.sol hH.cls hM (by have := hH.used; omega) hn (by have := inp_all S; rw [hvs] at this; exact this) asm hal (fun l _ hl => by unfold LitV at hl; unfold vr; omega) F G R (fun e => by omega) (fun e => ?_) fun F' hF' _ hval m r hm hr k1 k2 I' st' k3 k4 => ?_
  · rw [(valid_all hvs).2 hv] at e; cases e
  · obtain rfl : F = F' := by omega
    exact h m r hm hr k1 I' st' (hH.step k4 k3 k2 (by have := k1.used2; have := hH.used; omega) (by have := k1.steps; have := hH.steps; omega)) k4
theorem hed_solve {n M : Nat} {C : List (List Int)} {u s : Nat} {st : St} (hH : Hed σ n M C u s I S st) (hM : M ≤ 900000) (hu : u ≤ 100000000000) (hn : n ≤ 12) (asm : List Int) (hal : asm.length ≤ 1000000) (hv : ∀ l ∈ asm, LitV n l) (F : Nat) (hF : F ≤ 1000000) (G : Glob) (R : A → St → Prop)
    (h : ∀ m r, Sv.srch (S.start asm F).2 m (S.head asm F) 0 0 = some r → Slv n M asm F S (r.1.finish F) r.2 → ∀ I' st', Hed σ n (M + 1) C (u + F) (s + 2 ^ n) I' (r.1.finish F) st' → Stp Any I S st I' st' → R (.tup [di r.2, di 0]) st') : AC Try.prog G 13 [.ref (I .st) 0, .d (isD asm), dn F] st R :=
  hed_solveG hH hM hu hn asm hal hv F hF G R fun m r _ => h m r
theorem hed_add {n M : Nat} {C : List (List Int)} {u s : Nat} {st : St} (hH : Hed σ n M C u s I S st) (hM : M ≤ 1000000) (c : List Int) (hc : c.length ≤ 1000000) (hC : C.length < 40000) (hv : ∀ l ∈ c, LitV n l) (G : Glob) (R : A → St → Prop)
    (h : ∀ I' st', Hed σ n (M + 1) (C ++ [c]) u s I' (S.add c) st' → Stp Any I S st I' st' → R (di 0) st') : AC Try.prog G 12 [.ref (I .st) 0, .d (isD c)] st R := by
  have hvs := hH.cls.vars
  refine add_rest hH.hs.sol hH.cls hM c hc hC G R (fun e => ?_) fun _ I' st' k1 k2 => ?_
  · rw [(valid_all hvs).2 hv] at e; cases e
  · obtain ⟨h1, h2, h3⟩ := hH.cls.add hv hc hC
    exact h I' st' (hH.step k2 k1 h1 (by rw [h2]; exact hH.used) (by rw [h3]; exact hH.steps)) k2
/-- More objects behind. -/
theorem Hed.app {n M : Nat} {C : List (List Int)} {u s : Nat} {st : St} (h : Hed σ n M C u s I S st) (l : St) : Hed σ n M C u s I S (st ++ l) := ⟨⟨h.hs.sol.app l, h.hs.low⟩, h.old.trans (old_app st l), h.cls, h.used, h.steps⟩
theorem hd0_ok : ∀ c ∈ hd0, (∀ l ∈ c, LitV 2 l) ∧ c.length ≤ 1000000 := by
  unfold hd0 LitV; decide
set_option maxHeartbeats 4000000 in
theorem head_ac (σ : St) (G : Glob) (R : A → St → Prop) (h : R (db true) σ) : AC Try.prog G 9 [] σ R := by
  refine ac_enterC [2, 3, 4, 6, 7, 8, 10, 11, 12, 13, 14, 15] mixed Try.func9 rfl Try.ntmps9 (by simp only [go_sem]) fun hbd => ?_
  simp only [List.length_cons, List.length_nil, Nat.reduceAdd, Nat.reduceSub, List.replicate_succ, List.replicate_zero, List.cons_append, List.nil_append]
  simp only [go_sem]
  refine aw_cut (fun fr st => ∃ I S, fr = [.any, .ref (I .st) 0, .any, .any, .any, .any, .any, .any, .any, .any, .any, .any, .any, .any, .any, .any, .any, .any, .any, .any, .any, .any, .any, .any, .any, .any, .any, .any, .any, .any, .any, .any, .any, .any, .any, .any, .any, .any, .any, .any, .any, .any, .any, .any, .any, .any, .any, .any, .any, .any, .any, .any, .any, .any, .any, .any, .any, .any, .any, .any, .any, .any, .any, .any, .any, .any, .any, .any, .any, .any, .any, .any, .any, .any, .any, .any, .any, .any, .any, .any, .any, .any, .any, .any, .any, .any, .any, .any, .any, .any, .any, .any, .any, .any, .any, .any, .any, .any, .any, .any, .any, .any, .any, .any, .any, .any, .any, .any, .any, .any, .any, .any, .any, .any, .any, .any, .any, .any, .any, .any, .any, .any, .any, .any, .any, .any, .any, .any, .any, .any, .any, .any, .any, .any, .any, .any, .any, .any, .any, .any, .any, .any, .any, .any, .any, .any, .any, .any, .any, .any, .any, .any, .any, .any] ∧ Hed σ 2 3 hd0 0 0 I S st) ?_ ?_
  · simp only [go_sem]
    refine ac' (ac_weak (Weak.deep [0, 1, 2, 3] 5) ?_)
    simp only [go_sem]
    refine with_ac 2 (by decide) hd0 (by decide) hd0_ok _ _ _ fun I σ' k1 k2 => ?_
    obtain ⟨a1, a2, a3⟩ := addAll_cls 2 (by decide) hd0 (by decide) hd0_ok
    exact Wk.mask [1] ⟨I, _, rfl, k1.weak (by simp), (old_app σ _).trans k2, a1, by rw [a2]; exact Nat.le_refl _, by rw [a3]; exact Nat.le_refl _⟩
  rintro fr st ⟨I, S, rfl, hH⟩
  simp only [go_sem]
  refine aw_cut (fun fr st => ∃ I S, fr = [.any, .ref (I .st) 0, di 1, di 0, .any, .any, .any, .any, .any, .any, .any, .any, .any, .any, .any, .any, .any, .any, .any, .any, .any, .any, .any, .any, .any, .any, .any, .any, .any, .any, .any, .any, .any, .any, .any, .any, .any, .any, .any, .any, .any, .any, .any, .any, .any, .any, .any, .any, .any, .any, .any, .any, .any, .any, .any, .any, .any, .any, .any, .any, .any, .any, .any, .any, .any, .any, .any, .any, .any, .any, .any, .any, .any, .any, .any, .any, .any, .any, .any, .any, .any, .any, .any, .any, .any, .any, .any, .any, .any, .any, .any, .any, .any, .any, .any, .any, .any, .any, .any, .any, .any, .any, .any, .any, .any, .any, .any, .any, .any, .any, .any, .any, .any, .any, .any, .any, .any, .any, .any, .any, .any, .any, .any, .any, .any, .any, .any, .any, .any, .any, .any, .any, .any, .any, .any, .any, .any, .any, .any, .any, .any, .any, .any, .any, .any, .any, .any, .any, .any, .any, .any, .any, .any, .any] ∧ Hed σ 2 4 hd0 200000 4 I S st ∧ S.refuted = false ∧ S.satisfied = true ∧ S.values.length = 2 ∧ SatC (βV S.values) hd0) ?_ ?_
  · simp only [go_sem]
    refine ac' (ac_weak (Weak.nils nilA_asm) ?_)
    refine hed_solve hH (by decide) (by decide) (by decide) [] (by decide) (fun l hl => by cases hl) 200000 (by decide) _ _ fun m r hr k1 I' st' k2 k3 => ?_
    have hv1 : r.2 = 1 := k1.isYes (k1.done (by rw [hH.cls.vars]; decide) (by have := k2.steps; simp only [pmax]; omega)) (by rw [hH.cls.cls]; exact hd0_yes)
    obtain ⟨y1, y2, y3, y4, -⟩ := k1.yes hv1
    rw [hH.cls.vars] at y3
    rw [hH.cls.cls] at y4
    rw [hv1, ← k3.st]
    simp only [go_sem]
    exact Wk.mask [1, 2, 3] ⟨I', _, rfl, k2, y1, y2, y3, y4⟩
  clear hH
  rintro fr st ⟨I, S, rfl, hH, y1, y2, y3, y4⟩
  have hv : valsM S = [true, true] := by
    unfold valsM
    rw [y2, if_pos rfl]
    obtain ⟨h1, h2⟩ := hd0_iff.1 y4
    unfold βV at h1 h2
    match hvs : S.values, y3 with
    | [a, b], _ =>
      rw [hvs] at h1 h2
      have e1 : a = true := h1
      have e2 : b = true := h2
      rw [e1, e2]
  have hcr : coreM S = [] := by unfold coreM; rw [y1]; rfl
  simp only [go_sem]
  refine aw_cut (fun fr st' => fr = [.any, .ref (I .st) 0, di 1, di 0, .d (.sl 1 [.bool true, .bool true]), .any, .any, .any, .any, .any, .any, .any, .any, .any, .any, .any, .any, .any, .any, .any, .any, .any, .any, .any, .any, .any, .any, .any, .any, .any, .any, .any, .any, .any, .any, .any, .any, .any, .any, .any, .any, .any, .any, .any, .any, .any, .any, .any, .any, .any, .any, .any, .any, .any, .any, .any, .any, .any, .any, .any, .any, .any, .any, .any, .any, .any, .any, .any, .any, .any, .any, .any, .any, .any, .any, .any, .any, .any, .any, .any, .any, .any, .any, .any, .any, .any, .any, .any, .any, .any, .any, .any, .any, .any, .any, .any, .any, .any, .any, .any, .any, .any, .any, .any, .any, .any, .any, .any, .any, .any, .any, .any, .any, .any, .any, .any, .any, .any, .any, .any, .any, .any, .any, .any, .any, .any, .any, .any, .any, .any, .any, .any, .any, .any, .any, .any, .any, .any, .any, .any, .any, .any, .any, .any, .any, .any, .any, .any, .any, .any, .any, .any, .any, .any] ∧ st' = st) ?_ ?_
  · simp only [go_sem]
    refine ac' (values_ac hH.hs.sol (fun _ => by omega) _ _ ?_)
    rw [hv]
    simp only [go_sem]
    exact Wk.mask [1, 2, 3, 4] ⟨rfl, rfl⟩
  rintro fr st' ⟨rfl, rfl⟩
  have q1 : ((1 : Int) != 1) = false := rfl
  have q0 : ((0 : Int) != 0) = false := rfl
  have q2 : (((2 : Nat) : Int) != 2) = false := rfl
  have e1 : List.getD [D.bool true, D.bool true] (Int.toNat 0) default = .bool true := rfl
  have e2 : List.getD [D.bool true, D.bool true] (Int.toNat 1) default = .bool true := rfl
  simp only [go_sem]
  refine aw_cut (fun fr st => fr = [.any, .ref (I .st) 0, .any, .any, .any, .any, .any, .any, .any, .any, .any, .any, .any, .any, .any, .any, .any, .any, .any, .any, .any, .any, .any, .any, .any, .any, .any, .any, .any, .any, .any, .any, .any, .any, .any, .any, .any, .any, .any, .any, .any, .any, .any, .any, .any, .any, .any, .any, .any, .any, .any, .any, .any, .any, .any, .any, .any, .any, .any, .any, .any, .any, .any, .any, .any, .any, .any, .any, .any, .any, .any, .any, .any, .any, .any, .any, .any, .any, .any, .any, .any, .any, .any, .any, .any, .any, .any, .any, .any, .any, .any, .any, .any, .any, .any, .any, .any, .any, .any, .any, .any, .any, .any, .any, .any, .any, .any, .any, .any, .any, .any, .any, .any, .any, .any, .any, .any, .any, .any, .any, .any, .any, .any, .any, .any, .any, .any, .any, .any, .any, .any, .any, .any, .any, .any, .any, .any, .any, .any, .any, .any, .any, .any, .any, .any, .any, .any, .any, .any, .any, .any, .any, .any, .any] ∧ st = st') ?_ ?_
  · simp only [go_sem, q1, q0, q2, e1, e2]
    refine ⟨⟨by omega, by omega⟩, ⟨by omega, by omega⟩, ex' (isD []) ⟨fun q => ?_, ?_⟩⟩
    · simp only [go_sem]
      refine ac' (core_ac hH.hs.sol (fun e => by rw [y1] at e; cases e) _ _ ?_)
      rw [hcr]
      exact And.intro rfl rfl
    have q3 : (((0 : Nat) : Int) != 0) = false := rfl
    simp only [isD, List.map_nil, go_sem, q1, q0, q2, q3, e1, e2]
    exact Wk.mask [1] ⟨rfl, rfl⟩
  clear hv hcr y1 y2 y3 y4
  rintro fr st ⟨rfl, rfl⟩
  simp only [go_sem]
  refine aw_cut (fun fr st => ∃ I S, fr = [.any, .ref (I .st) 0, .any, di 0, .any, di 2, .any, .any, .any, .any, .any, .any, .any, .any, .any, .any, .any, .any, .any, .any, .any, .any, .any, .any, .any, .any, .any, .any, .any, .any, .any, .any, .any, .any, .any, .any, .any, .any, .any, .any, .any, .any, .any, .any, .any, .any, .any, .any, .any, .any, .any, .any, .any, .any, .any, .any, .any, .any, .any, .any, .any, .any, .any, .any, .any, .any, .any, .any, .any, .any, .any, .any, .any, .any, .any, .any, .any, .any, .any, .any, .any, .any, .any, .any, .any, .any, .any, .any, .any, .any, .any, .any, .any, .any, .any, .any, .any, .any, .any, .any, .any, .any, .any, .any, .any, .any, .any, .any, .any, .any, .any, .any, .any, .any, .any, .any, .any, .any, .any, .any, .any, .any, .any, .any, .any, .any, .any, .any, .any, .any, .any, .any, .any, .any, .any, .any, .any, .any, .any, .any, .any, .any, .any, .any, .any, .any, .any, .any, .any, .any, .any, .any, .any, .any] ∧ Hed σ 2 5 hd0 400000 8 I S st ∧ S.refuted = true ∧ S.satisfied = false ∧ S.core.length ≤ 13 ∧ S.core.Nodup ∧ S.core ≠ []) ?_ ?_
  · simp only [go_sem]
    refine ac' (ac_weak (Weak.deep [0] 3) ?_)
    simp only [go_sem]
    refine hed_solve (hH.app [none]) (by decide) (by decide) (by decide) [-2, 1, -2] (by decide) (by unfold LitV; decide) 200000 (by decide) _ _ fun m r hr k1 I' st' k2 k3 => ?_
    have hv1 : r.2 = 2 := k1.isNo (k1.done (by rw [hH.cls.vars]; decide) (by have := k2.steps; simp only [pmax]; omega)) (by rw [hH.cls.cls]; exact hd0_no)
    obtain ⟨y1, y2, y3, y4, y5, y6, y7⟩ := k1.no hv1
    rw [hH.cls.cls] at y6
    rw [hv1, ← k3.st]
    simp only [go_sem]
    exact Wk.mask [1, 3, 5] ⟨I', _, rfl, k2, y1, y2, y4, y5, fun e => y6 (by rw [e]; exact hd0_yes)⟩
  clear hH
  rintro fr st ⟨I, S, rfl, hH, y1, y2, y3, y4, y5⟩
  have hcr : coreM S = S.core := by unfold coreM; rw [y1]; rfl
  have hv : valsM S = [] := by unfold valsM; rw [y2]; rfl
  simp only [go_sem]
  refine aw_cut (fun fr st' => fr = [.any, .ref (I .st) 0, .any, di 0, .any, di 2, .d (isD S.core), .any, .any, .any, .any, .any, .any, .any, .any, .any, .any, .any, .any, .any, .any, .any, .any, .any, .any, .any, .any, .any, .any, .any, .any, .any, .any, .any, .any, .any, .any, .any, .any, .any, .any, .any, .any, .any, .any, .any, .any, .any, .any, .any, .any, .any, .any, .any, .any, .any, .any, .any, .any, .any, .any, .any, .any, .any, .any, .any, .any, .any, .any, .any, .any, .any, .any, .any, .any, .any, .any, .any, .any, .any, .any, .any, .any, .any, .any, .any, .any, .any, .any, .any, .any, .any, .any, .any, .any, .any, .any, .any, .any, .any, .any, .any, .any, .any, .any, .any, .any, .any, .any, .any, .any, .any, .any, .any, .any, .any, .any, .any, .any, .any, .any, .any, .any, .any, .any, .any, .any, .any, .any, .any, .any, .any, .any, .any, .any, .any, .any, .any, .any, .any, .any, .any, .any, .any, .any, .any, .any, .any, .any, .any, .any, .any, .any, .any] ∧ st' = st) ?_ ?_
  · simp only [go_sem]
    refine ac' (core_ac hH.hs.sol (fun _ => by omega) _ _ ?_)
    rw [hcr]
    simp only [go_sem]
    exact Wk.mask [1, 3, 5, 6] ⟨rfl, rfl⟩
  rintro fr st' ⟨rfl, rfl⟩
  simp only [go_sem]
  refine aw_cut (fun fr st => fr = [.any, .ref (I .st) 0, .any, .any, .any, .any, .any, .any, .any, .any, .any, .any, .any, .any, .any, .any, .any, .any, .any, .any, .any, .any, .any, .any, .any, .any, .any, .any, .any, .any, .any, .any, .any, .any, .any, .any, .any, .any, .any, .any, .any, .any, .any, .any, .any, .any, .any, .any, .any, .any, .any, .any, .any, .any, .any, .any, .any, .any, .any, .any, .any, .any, .any, .any, .any, .any, .any, .any, .any, .any, .any, .any, .any, .any, .any, .any, .any, .any, .any, .any, .any, .any, .any, .any, .any, .any, .any, .any, .any, .any, .any, .any, .any, .any, .any, .any, .any, .any, .any, .any, .any, .any, .any, .any, .any, .any, .any, .any, .any, .any, .any, .any, .any, .any, .any, .any, .any, .any, .any, .any, .any, .any, .any, .any, .any, .any, .any, .any, .any, .any, .any, .any, .any, .any, .any, .any, .any, .any, .any, .any, .any, .any, .any, .any, .any, .any, .any, .any, .any, .any, .any, .any, .any, .any] ∧ st = st') ?_ ?_
  · have q4 : ((S.core.length : Int) == 0) = false := by
      rw [beq_eq_false_iff_ne]
      intro e
      exact y5 (List.eq_nil_of_length_eq_zero (by omega))
    have q5 : ((2 : Int) != 2) = false := rfl
    unfold isD
    simp only [go_sem, q0, q4, q5, List.length_map]
    refine ex' (.bool true) ⟨fun q => ?_, ?_⟩
    · simp only [go_sem]
      refine ac' (distinct_ac S.core (by omega) _ _ _ ?_)
      rw [decide_eq_true y4]
      exact And.intro rfl rfl
    simp only [go_sem, q0, q4, q5, List.length_map]
    refine ex' (bsD []) ⟨fun q => ?_, ?_⟩
    · simp only [go_sem]
      refine ac' (values_ac hH.hs.sol (fun e => by rw [y2] at e; cases e) _ _ ?_)
      rw [hv]
      exact And.intro rfl rfl
    have q3 : (((0 : Nat) : Int) != 0) = false := rfl
    simp only [bsD, List.map_nil, go_sem, q0, q3, q4, q5, List.length_map]
    exact Wk.mask [1] ⟨rfl, rfl⟩
  clear hv hcr y1 y2 y3 y4 y5
  rintro fr st ⟨rfl, rfl⟩
  simp only [go_sem]
  refine aw_cut (fun fr st => ∃ I S, fr = [.any, .ref (I .st) 0, .any, .any, .any, .any, .any, di 0, .any, .any, .any, .any, .any, .any, .any, .any, .any, .any, .any, .any, .any, .any, .any, .any, .any, .any, .any, .any, .any, .any, .any, .any, .any, .any, .any, .any, .any, .any, .any, .any, .any, .any, .any, .any, .any, .any, .any, .any, .any, .any, .any, .any, .any, .any, .any, .any, .any, .any, .any, .any, .any, .any, .any, .any, .any, .any, .any, .any, .any, .any, .any, .any, .any, .any, .any, .any, .any, .any, .any, .any, .any, .any, .any, .any, .any, .any, .any, .any, .any, .any, .any, .any, .any, .any, .any, .any, .any, .any, .any, .any, .any, .any, .any, .any, .any, .any, .any, .any, .any, .any, .any, .any, .any, .any, .any, .any, .any, .any, .any, .any, .any, .any, .any, .any, .any, .any, .any, .any, .any, .any, .any, .any, .any, .any, .any, .any, .any, .any, .any, .any, .any, .any, .any, .any, .any, .any, .any, .any, .any, .any, .any, .any, .any, .any] ∧ Hed σ 2 6 hd1 400000 8 I S st) ?_ ?_
  · simp only [go_sem]
    refine ac' (ac_weak (Weak.deep [0] 3) ?_)
    simp only [go_sem]
    refine hed_add (hH.app [none]) (by decide) [-1, -2, -1] (by decide) (by decide) (by unfold LitV; decide) _ _ fun I' st' k2 k3 => ?_
    rw [← k3.st]
    exact Wk.mask [1, 7] ⟨I', _, rfl, k2⟩
  clear hH
  rintro fr st ⟨I, S, rfl, hH⟩
  simp only [go_sem]
  refine aw_cut (fun fr st => fr = [.any, .ref (I .st) 0, .any, .any, .any, .any, .any, di 0, di 210, .any, .any, .any, .any, .any, .any, .any, .any, .any, .any, .any, .any, .any, .any, .any, .any, .any, .any, .any, .any, .any, .any, .any, .any, .any, .any, .any, .any, .any, .any, .any, .any, .any, .any, .any, .any, .any, .any, .any, .any, .any, .any, .any, .any, .any, .any, .any, .any, .any, .any, .any, .any, .any, .any, .any, .any, .any, .any, .any, .any, .any, .any, .any, .any, .any, .any, .any, .any, .any, .any, .any, .any, .any, .any, .any, .any, .any, .any, .any, .any, .any, .any, .any, .any, .any, .any, .any, .any, .any, .any, .any, .any, .any, .any, .any, .any, .any, .any, .any, .any, .any, .any, .any, .any, .any, .any, .any, .any, .any, .any, .any, .any, .any, .any, .any, .any, .any, .any, .any, .any, .any, .any, .any, .any, .any, .any, .any, .any, .any, .any, .any, .any, .any, .any, .any, .any, .any, .any, .any, .any, .any, .any, .any, .any, .any] ∧ Hed σ 2 6 hd1 400000 8 I S st) ?_ ?_
  · simp only [go_sem]
    refine ac' (ac_weak (Weak.deep [0] 3) ?_)
    simp only [go_sem]
    refine add_rest (hH.app [none]).hs.sol hH.cls (by decide) [3] (by decide) (by decide) _ _ (fun e => ?_) fun e => ?_
    · exact Wk.mask [1, 7, 8] ⟨rfl, hH.app [none]⟩
    · have := (valid_all hH.cls.vars).1 e 3 (by simp)
      unfold LitV at this; omega
  rintro fr st ⟨rfl, hH⟩
  simp only [go_sem]
  refine aw_cut (fun fr st => ∃ I S, fr = [.any, .ref (I .st) 0, .any, di 0, .any, .any, .any, di 0, di 210, di 2, .any, .any, .any, .any, .any, .any, .any, .any, .any, .any, .any, .any, .any, .any, .any, .any, .any, .any, .any, .any, .any, .any, .any, .any, .any, .any, .any, .any, .any, .any, .any, .any, .any, .any, .any, .any, .any, .any, .any, .any, .any, .any, .any, .any, .any, .any, .any, .any, .any, .any, .any, .any, .any, .any, .any, .any, .any, .any, .any, .any, .any, .any, .any, .any, .any, .any, .any, .any, .any, .any, .any, .any, .any, .any, .any, .any, .any, .any, .any, .any, .any, .any, .any, .any, .any, .any, .any, .any, .any, .any, .any, .any, .any, .any, .any, .any, .any, .any, .any, .any, .any, .any, .any, .any, .any, .any, .any, .any, .any, .any, .any, .any, .any, .any, .any, .any, .any, .any, .any, .any, .any, .any, .any, .any, .any, .any, .any, .any, .any, .any, .any, .any, .any, .any, .any, .any, .any, .any, .any, .any, .any, .any, .any, .any] ∧ Hed σ 2 7 hd1 600000 12 I S st ∧ S.refuted = true ∧ S.core = [] ∧ 0 < S.steps.length ∧ (S.steps.getD (S.steps.length - 1) ([], [])).1 = []) ?_ ?_
  · simp only [go_sem]
    refine ac' (ac_weak (Weak.nils nilA_asm) ?_)
    refine hed_solve hH (by decide) (by decide) (by decide) [] (by decide) (fun l hl => by cases hl) 200000 (by decide) _ _ fun m r hr k1 I' st' k2 k3 => ?_
    have hv1 : r.2 = 2 := k1.isNo (k1.done (by rw [hH.cls.vars]; decide) (by have := k2.steps; simp only [pmax]; omega)) (by rw [hH.cls.cls]; exact hd1_no)
    obtain ⟨y1, y2, y3, y4, y5, y6, y7⟩ := k1.no hv1
    have hc : (r.1.finish 200000).core = [] := List.eq_nil_iff_forall_not_mem.2 fun x hx => by cases y3 x hx
    rw [hc] at y7
    rcases y7 with ⟨l, hl, -⟩ | ⟨y7, y8⟩
    · cases hl
    rw [hv1, ← k3.st]
    simp only [go_sem]
    exact Wk.mask [1, 3, 7, 8, 9] ⟨I', _, rfl, k2, y1, hc, y7, List.perm_nil.1 y8⟩
  clear hH
  rintro fr st ⟨I, S, rfl, hH, y1, y2, y3, y4⟩
  have hz := hH.cls.rest.szs
  simp only [go_sem]
  refine aw_cut (fun fr st' => fr = [.any, .ref (I .st) 0, .any, di 0, .any, .any, .any, di 0, di 210, di 2, .d (prfD (proofM S)), .any, .any, .any, .any, .any, .any, .any, .any, .any, .any, .any, .any, .any, .any, .any, .any, .any, .any, .any, .any, .any, .any, .any, .any, .any, .any, .any, .any, .any, .any, .any, .any, .any, .any, .any, .any, .any, .any, .any, .any, .any, .any, .any, .any, .any, .any, .any, .any, .any, .any, .any, .any, .any, .any, .any, .any, .any, .any, .any, .any, .any, .any, .any, .any, .any, .any, .any, .any, .any, .any, .any, .any, .any, .any, .any, .any, .any, .any, .any, .any, .any, .any, .any, .any, .any, .any, .any, .any, .any, .any, .any, .any, .any, .any, .any, .any, .any, .any, .any, .any, .any, .any, .any, .any, .any, .any, .any, .any, .any, .any, .any, .any, .any, .any, .any, .any, .any, .any, .any, .any, .any, .any, .any, .any, .any, .any, .any, .any, .any, .any, .any, .any, .any, .any, .any, .any, .any, .any, .any, .any, .any, .any, .any] ∧ st' = st) ?_ ?_
  · simp only [go_sem]
    refine ac' (proof_ac hH.hs.sol hz.1 hz.2.1 hz.2.2 _ _ ?_)
    simp only [go_sem]
    exact Wk.mask [1, 3, 7, 8, 9, 10] ⟨rfl, rfl⟩
  rintro fr st' ⟨rfl, rfl⟩
  simp only [go_sem]
  refine aw_cut (fun fr st => fr = [.any, .ref (I .st) 0, .any, di 0, .any, .any, .any, di 0, di 210, di 2, .d (prfD (proofM S)), di 1, di 0, .any, .any, .any, .any, .any, .any, .any, .any, .any, .any, .any, .any, .any, .any, .any, .any, .any, .any, .any, .any, .any, .any, .any, .any, .any, .any, .any, .any, .any, .any, .any, .any, .any, .any, .any, .any, .any, .any, .any, .any, .any, .any, .any, .any, .any, .any, .any, .any, .any, .any, .any, .any, .any, .any, .any, .any, .any, .any, .any, .any, .any, .any, .any, .any, .any, .any, .any, .any, .any, .any, .any, .any, .any, .any, .any, .any, .any, .any, .any, .any, .any, .any, .any, .any, .any, .any, .any, .any, .any, .any, .any, .any, .any, .any, .any, .any, .any, .any, .any, .any, .any, .any, .any, .any, .any, .any, .any, .any, .any, .any, .any, .any, .any, .any, .any, .any, .any, .any, .any, .any, .any, .any, .any, .any, .any, .any, .any, .any, .any, .any, .any, .any, .any, .any, .any, .any, .any, .any, .any, .any, .any] ∧ Hed σ 2 7 hd1 600000 12 I S st) ?_ ?_
  · simp only [go_sem]
    refine ac' (ac_weak (Weak.nils (show NilAL [di ((0 : Nat) : Int), .d .nils] [di ((0 : Nat) : Int), .d (csD [])] from NilAL.cons (.refl _) (NilAL.cons (.d (.nil 1)) .nil))) ?_)
    refine with_ac 0 (by decide) [] (by decide) (fun c hc => by cases hc) _ _ _ fun J st2 k1 k2 => ?_
    obtain ⟨a1, a2, a3⟩ := addAll_cls 0 (by decide) [] (by decide) (fun c hc => by cases hc)
    have hT : Two J (addAll 0 []) I S st2 := ⟨k1.sol, ⟨fun s hs => by rw [k2.eq _ (hH.hs.sol.lt s hs)]; exact hH.hs.sol.get s hs, hH.hs.sol.inj⟩, fun s t hs ht e => by have := k1.low s hs; have := hH.hs.sol.lt t ht; omega⟩
    have hJ : Hed st' 0 0 [] 0 0 J (addAll 0 []) st2 := ⟨k1, k2, a1, by rw [a2]; exact Nat.le_refl _, by rw [a3]; exact Nat.le_refl _⟩
    simp only [go_sem]
    refine ac' (ac_weak (Weak.nils nilA_asm) ?_)
    refine hed_solve hJ (by decide) (by decide) (by decide) [] (by decide) (fun l hl => by cases hl) 200000 (by decide) _ _ fun m r hr k3 J' st3 k4 k5 => ?_
    have hv1 : r.2 = 1 := k3.isYes (k3.done (by rw [a1.vars]; decide) (by have := k4.steps; simp only [pmax]; omega)) (by rw [a1.cls]; exact nil_yes)
    rw [hv1]
    have hT2 := hT.fst k5 k4.hs.sol (a1.has k4.cls)
    simp only [go_sem]
    exact Wk.mask [1, 3, 7, 8, 9, 10, 11, 12] ⟨rfl, ⟨hT2.b, hH.hs.low⟩, hH.old.trans k4.old, hH.cls, hH.used, hH.steps⟩
  rintro fr st ⟨rfl, hH⟩
  have hcr : coreM S = [] := by unfold coreM; rw [y1]; exact y2
  have hpl : (proofM S).length = S.steps.length := by unfold proofM; simp
  have hpe : (proofM S).getD (S.steps.length - 1) ([], []) = ([], ((S.steps.getD (S.steps.length - 1) ([], [])).2.map (shiftH S.added.length))) := by
    unfold proofM
    rw [List.getD_eq_getElem?_getD, List.getElem?_map, List.getElem?_eq_getElem (by omega)]
    have := y4
    rw [List.getD_eq_getElem?_getD, List.getElem?_eq_getElem (by omega)] at this ⊢
    simp only [Option.map_some, Option.getD_some] at this ⊢
    rw [this]
  have g0 : List.getD ((proofM S).map lnD) (S.steps.length - 1) default = lnD ((proofM S).getD (S.steps.length - 1) ([], [])) := getD_mapD (by omega)
  rw [hpe] at g0
  have hle := hz.1
  have w1 : IntKind.i64.wrap ((S.steps.length : Int) - 1) = ((S.steps.length - 1 : Nat) : Int) := by rw [wrap64_id _ (by omega) (by omega)]; omega
  have z0 : ((0 : Int) == 0) = true := rfl
  have z1 : ((210 : Int) == 210) = true := rfl
  have z2 : ((2 : Int) == 2) = true := rfl
  have z3 : (((0 : Nat) : Int) == 0) = true := rfl
  have z4 : decide ((0 : Int) < (S.steps.length : Int)) = true := decide_eq_true (by omega)
  have z5 : ((1 : Int) == 1) = true := rfl
  unfold prfD
  simp only [go_sem, z0, z1, z2, z3, z4, z5]
  refine ex' (isD []) ⟨fun q => ?_, ?_⟩
  · simp only [go_sem]
    refine ac' (core_ac hH.hs.sol (fun _ => by rw [y2]; decide) _ _ ?_)
    rw [hcr]
    exact And.intro rfl rfl
  simp only [isD, List.map_nil, go_sem, List.length_map, hpl, g0, lnD, w1, z0, z1, z2, z3, z4, z5]
  refine ⟨⟨by omega, by omega⟩, ex' .nilp ⟨fun q => ?_, ?_⟩⟩
  · simp only [go_sem]
    refine ac' (new_nil (-1) (Or.inl (by decide)) _ _ _ ?_)
    exact And.intro rfl rfl
  simp only [isD, List.map_nil, go_sem, List.length_map, hpl, g0, lnD, w1, z0, z1, z2, z3, z4, z5]
  refine ex' .nilp ⟨fun q => ?_, ?_⟩
  · simp only [go_sem]
    refine ac' (new_nil 8001 (Or.inr (by decide)) _ _ _ ?_)
    exact And.intro rfl rfl
  simp only [isD, List.map_nil, go_sem, List.length_map, hpl, g0, lnD, w1, z0, z1, z2, z3, z4, z5, Try.results9]
  exact ret_old hbd hH.old h
end Go.Proofs.Ytnanofipjiclfaa
end PartX3

section PartX4
/- SolverIncrements. -/
set_option linter.unusedSimpArgs false
set_option linter.unusedVariables false
set_option maxRecDepth 100000
namespace Go.Proofs.Ytnanofipjiclfaa
open Go Go.Ab
variable {I : Sl → Nat} {S : Sv} {σ : St}

/-- What a verdict says; L bounds the steps from below when it is open. -/
structure Vx (C : List (List Int)) (asm : List Int) (x : Int) (L : Nat) : Prop where
  v3 : x = 0 ∨ x = 1 ∨ x = 2
  z : x = 0 → pmax ≤ L
  y : x = 1 → SatA C asm
  n : x = 2 → ¬ SatA C asm
theorem Slv.vx {b M F : Nat} {asm : List Int} {S N : Sv} {v : Int} (h : Slv b M asm F S N v) (hF : 2 ^ b * (S.vars + 1) ≤ F) : Vx S.cls asm v N.steps.length :=
  ⟨h.v3, fun e => by obtain ⟨-, -, h1⟩ := h.und e; rcases h1 with h1 | h1 <;> omega, h.sat, h.unsat⟩
theorem Vx.mono {C : List (List Int)} {asm : List Int} {x : Int} {L L' : Nat} (h : Vx C asm x L) (hl : L ≤ L') : Vx C asm x L' := ⟨h.v3, fun e => Nat.le_trans (h.z e) hl, h.y, h.n⟩
theorem Vx.yes {C : List (List Int)} {asm : List Int} {x : Int} {L : Nat} (h : Vx C asm x L) (h0 : x ≠ 0) (hs : SatA C asm) : x = 1 := by
  rcases h.v3 with e | e | e
  · exact absurd e h0
  · exact e
  · exact absurd hs (h.n e)
theorem Vx.no {C : List (List Int)} {asm : List Int} {x : Int} {L : Nat} (h : Vx C asm x L) (h0 : x ≠ 0) (hs : ¬ SatA C asm) : x = 2 := by
  rcases h.v3 with e | e | e
  · exact absurd e h0
  · exact absurd (h.y e) hs
  · exact e
theorem Vx.eq {C : List (List Int)} {asm : List Int} {x y : Int} {L L' : Nat} (h : Vx C asm x L) (k : Vx C asm y L') (hx : x ≠ 0) (hy : y ≠ 0) : x = y := by
  rcases h.v3 with e | e | e
  · exact absurd e hx
  · rw [e, k.yes hy (h.y e)]
  · rw [e, k.no hy (h.n e)]
theorem SatA.less {C D : List (List Int)} {a : List Int} (h : SatA (C ++ D) a) : SatA C a := by
  obtain ⟨β, h1, h2⟩ := h
  exact ⟨β, fun c hc => h1 c (List.mem_append_left _ hc), h2⟩
theorem Hed.mono {n M M' : Nat} {C : List (List Int)} {u s u' s' : Nat} {st : St} (h : Hed σ n M C u s I S st) (hM : M ≤ M') (hu : u ≤ u') (hs : s ≤ s') : Hed σ n M' C u' s' I S st := ⟨h.hs, h.old, ⟨h.cls.rest.mono hM, h.cls.vars, h.cls.cls⟩, Nat.le_trans h.used hu, Nat.le_trans h.steps hs⟩
/-- Two solvers beside what was there. -/
structure Duo (σ : St) (n M : Nat) (C : List (List Int)) (u s : Nat) (I : Sl → Nat) (S : Sv) (M' : Nat) (C' : List (List Int)) (u' s' : Nat) (J : Sl → Nat) (T : Sv) (st : St) : Prop where
  a : Hed σ n M C u s I S st
  b : Hed σ n M' C' u' s' J T st
  d : ∀ x t, has S x → has T t → I x ≠ J t
theorem Duo.symm {n M M' : Nat} {C C' : List (List Int)} {u s u' s' : Nat} {J : Sl → Nat} {T : Sv} {st : St} (h : Duo σ n M C u s I S M' C' u' s' J T st) : Duo σ n M' C' u' s' J T M C u s I S st := ⟨h.b, h.a, fun x t hx ht e => h.d t x ht hx e.symm⟩
theorem Duo.fst {n M M' M1 : Nat} {C C' C1 : List (List Int)} {u s u' s' u1 s1 : Nat} {X : Sl → Prop} {I' J : Sl → Nat} {S' T : Sv} {st st' : St} (h : Duo σ n M C u s I S M' C' u' s' J T st) (k : Stp X I S st I' st') (a : Hed σ n M1 C1 u1 s1 I' S' st') : Duo σ n M1 C1 u1 s1 I' S' M' C' u' s' J T st' := by
  have t : Two I S J T st := ⟨h.a.hs.sol, h.b.hs.sol, h.d⟩
  have t' := t.fst k a.hs.sol (h.a.cls.has a.cls)
  exact ⟨a, ⟨⟨t'.b, h.b.hs.low⟩, a.old, h.b.cls, h.b.used, h.b.steps⟩, t'.d⟩
theorem Duo.app {n M M' : Nat} {C C' : List (List Int)} {u s u' s' : Nat} {J : Sl → Nat} {T : Sv} {st : St} (h : Duo σ n M C u s I S M' C' u' s' J T st) (l : St) : Duo σ n M C u s I S M' C' u' s' J T (st ++ l) := ⟨h.a.app l, h.b.app l, h.d⟩
/-- A second solver, made behind the first. -/
theorem duo_new {n M : Nat} {C : List (List Int)} {u s : Nat} {st st' : St} (h : Hed σ n M C u s I S st) {M' : Nat} {C' : List (List Int)} {J : Sl → Nat} {T : Sv} (hJ : Hs st.length J T st') (ho : Old st st') (hc : Cls M' n C' T) {u' s' : Nat} (hu : T.used ≤ u') (hs : T.steps.length ≤ s') : Duo σ n M C u s I S M' C' u' s' J T st' :=
  ⟨⟨⟨⟨fun x hx => by rw [ho.eq _ (h.hs.sol.lt x hx)]; exact h.hs.sol.get x hx, h.hs.sol.inj⟩, h.hs.low⟩, h.old.trans ho, h.cls, h.used, h.steps⟩, ⟨hJ.weak h.old.len, h.old.trans ho, hc, hu, hs⟩, fun x t hx ht e => by have := h.hs.sol.lt x hx; have := hJ.low t ht; omega⟩
/-- What the tests of a formula say. -/
theorem fits_of {n : Int} {C : List (List Int)} (h : fitsB n C = true) : ∃ m : Nat, n = m ∧ m ≤ 12 ∧ C.length ≤ 60 ∧ ∀ c ∈ C, (∀ l ∈ c, LitV m l) ∧ c.length ≤ 20 := by
  unfold fitsB fitsC at h
  simp only [Bool.and_eq_true, Bool.not_eq_true', Bool.or_eq_false_iff, decide_eq_false_iff_not, List.all_eq_true, Bool.not_eq_false'] at h
  obtain ⟨⟨⟨h1, h2⟩, h3⟩, h4⟩ := h
  refine ⟨n.toNat, by omega, by omega, by omega, fun c hc => ?_⟩
  obtain ⟨h5, h6⟩ := h4 c hc
  have e : n = (n.toNat : Int) := by omega
  rw [e] at h6
  exact ⟨validB_iff.1 h6, by omega⟩
theorem pow12 {n : Nat} (h : n ≤ 12) : 2 ^ n ≤ 4096 ∧ 2 ^ n * (n + 1) ≤ 53248 := by
  have h1 : 2 ^ n ≤ 2 ^ 12 := Nat.pow_le_pow_right (by decide) h
  refine ⟨h1, ?_⟩
  calc 2 ^ n * (n + 1) ≤ 2 ^ 12 * (12 + 1) := Nat.mul_le_mul h1 (by omega)
    _ = 53248 := by decide
end Go.Proofs.Ytnanofipjiclfaa
end PartX4

section PartB1
/- Bits of machine's integers, as the program's operations give them. -/
set_option linter.unusedSimpArgs false
set_option linter.unusedVariables false
namespace Go.Proofs.Ytnanofipjiclfaa
open Go Go.Ab

def bShl (ik : IntKind) (a b : Int) : Int := ik.wrap (a * 2 ^ (min b.toNat ik.bits))
section
variable {P : Program} {t : TypeId} {k : Prop → A → Prop} {a b : Int} {ik jk : IntKind}
@[go_sem high, go_sem ↓ high] theorem rdBin_shlB : rdBin P .shl t k (.d (.int ik a)) (.d (.int jk b)) = k (0 ≤ b) (.d (.int ik (bShl ik a b))) := (rfl)
end
end Go.Proofs.Ytnanofipjiclfaa
end PartB1

section PartQ29
/- Plain facts on the solver: two amounts of fuel; numbers whose bits are an assignment. -/
set_option linter.unusedSimpArgs false
set_option linter.unusedVariables false
namespace Go.Proofs.Ytnanofipjiclfaa
open Go Go.Ab

theorem up_diff1 (d : Nat) (p : Sv × List Int) (l : Int) : Sv.diff1 (upL d p.1, p.2) l = (upL d (Sv.diff1 p l).1, (Sv.diff1 p l).2) := by
  have e : Sv.diff1 (upL d p.1, p.2) l = if p.1.last.getD (code l) 0 = p.1.stamp then (upL d p.1, p.2) else ({ upL d p.1 with last := p.1.last.set (code l) p.1.stamp }, p.2 ++ [l]) := rfl
  rw [e]
  unfold Sv.diff1
  split <;> rfl
theorem up_diffF (d : Nat) : ∀ (lits : List Int) (p : Sv × List Int), lits.foldl Sv.diff1 (upL d p.1, p.2) = (upL d (lits.foldl Sv.diff1 p).1, (lits.foldl Sv.diff1 p).2)
  | [], p => rfl
  | l :: lits, p => by
    rw [List.foldl_cons, List.foldl_cons, up_diff1]
    exact up_diffF d lits (Sv.diff1 p l)
theorem up_start (d F : Nat) (S : Sv) (asm : List Int) : S.start asm (F + d) = (upL d (S.start asm F).1, (S.start asm F).2) :=
  up_diffF d asm (({ ({ S with satisfied := false, refuted := false, left := F } : Sv) with stamp := S.stamp + 1 } : Sv), [])
theorem up_begin (d : Nat) (S : Sv) : (upL d S).begin' = upL d S.begin' := by
  unfold Sv.begin'
  have e1 : (upL d S).added = S.added := rfl
  have e2 : (upL d S).learned = S.learned := rfl
  rw [e1, e2, up_fold d (fun S i => Sv.examine S i) (fun S x => up_ex d S x), up_fold d (fun S k => Sv.examine S (cmax + k)) (fun S x => up_ex d S (cmax + x))]
theorem up_head (d F : Nat) (S : Sv) (asm : List Int) : S.head asm (F + d) = upL d (S.head asm F) := by
  have h := up_start d F S asm
  have e : ({ (S.start asm (F + d)).1 with first := 1 } : Sv) = upL d { (S.start asm F).1 with first := 1 } := by rw [h]; rfl
  show ({ (S.start asm (F + d)).1 with first := 1 } : Sv).begin' = _
  rw [e]
  exact up_begin d _
theorem up_finish (d F : Nat) (S : Sv) : (upL d S).finish (F + d) = upL d (S.finish F) := by
  have e : (upL d S).spent (F + d) = upL d (S.spent F) := by
    have : F + d - (S.left + d) = F - S.left := by omega
    unfold Sv.spent upL
    simp only [this]
  unfold Sv.finish
  rw [e, up_retract]
  rfl
/-- A search that ends with less fuel ends alike with more. -/
theorem more_fuel {b M F d n n' : Nat} {asm : List Int} {S : Sv} {r r' : Sv × Int} (hn : n = pot b (S.head asm F) false + 1 + 8000000) (hn' : n' = pot b (S.head asm (F + d)) false + 1 + 8000000) (hr : Sv.srch (S.start asm F).2 n (S.head asm F) 0 0 = some r) (hr' : Sv.srch (S.start asm (F + d)).2 n' (S.head asm (F + d)) 0 0 = some r') (h0 : r.2 ≠ 0) :
    r'.2 = r.2 ∧ r'.1.finish (F + d) = upL d (r.1.finish F) := by
  have e1 : n' = n := by rw [hn, hn', up_head]; rfl
  rw [e1, up_start, up_head] at hr'
  have := srch_up d (S.start asm F).2 n (S := S.head asm F) (S' := r.1) (v := r.2) hr h0
  simp only at hr'
  rw [this] at hr'
  injection hr' with e
  rw [← e]
  exact ⟨rfl, up_finish d F _⟩
/-- The number whose bits these are. -/
def bitsN : List Bool → Nat
  | [] => 0
  | b :: l => b.toNat + 2 * bitsN l
theorem bitsN_snoc : ∀ (l : List Bool) (b : Bool), bitsN (l ++ [b]) = bitsN l + (if b then 2 ^ l.length else 0)
  | [], b => by cases b <;> rfl
  | a :: l, b => by
    rw [List.cons_append, bitsN, bitsN, bitsN_snoc l b, List.length_cons, Nat.pow_succ]
    cases b <;> simp <;> omega
theorem bitsN_lt : ∀ (l : List Bool), bitsN l < 2 ^ l.length
  | [] => by decide
  | a :: l => by
    have := bitsN_lt l
    rw [bitsN, List.length_cons, Nat.pow_succ]
    cases a <;> simp <;> omega
end Go.Proofs.Ytnanofipjiclfaa
end PartQ29

section PartX7
/- The reference's Bits, Same and SameSteps. -/
set_option linter.unusedSimpArgs false
set_option linter.unusedVariables false
set_option maxRecDepth 100000
namespace Go.Proofs.Ytnanofipjiclfaa
open Go Go.Ab
variable {I : Sl → Nat} {S : Sv} {σ : St}

theorem shl_pow {i : Nat} (h : i ≤ 59) : bShl .i64 1 (i : Int) = ((2 ^ i : Nat) : Int) := by
  unfold bShl
  rw [Int.toNat_natCast, show min i IntKind.i64.bits = i from Nat.min_eq_left (by simp only [IntKind.bits]; omega), Int.one_mul]
  have e : (2 : Int) ^ i = ((2 ^ i : Nat) : Int) := by simp
  have h2 : 2 ^ i ≤ 2 ^ 59 := Nat.pow_le_pow_right (by decide) h
  have h3 : (2 : Nat) ^ 59 = 576460752303423488 := by decide
  rw [e]
  generalize 2 ^ i = p at h2
  exact wrap64_id _ (by omega) (by omega)
theorem bits_ac (l : List Bool) (hl : l.length ≤ 40) (σ : St) (G : Glob) (R : A → St → Prop) (h : R (dn (bitsN l)) σ) : AC Try.prog G 27 [.d (bsD l)] σ R := by
  unfold bsD
  refine ac_enter mixed Try.func27 rfl Try.ntmps27 (by simp only [go_sem]) fun hbd => ?_
  simp only [List.length_cons, List.length_nil, Nat.reduceAdd, Nat.reduceSub, List.replicate_succ, List.replicate_zero, List.cons_append, List.nil_append]
  simp only [go_sem, Try.results27]
  refine aw_loop (fun m fr st => ∃ j : Nat, j ≤ l.length ∧ m = l.length - j ∧ fr = [.d (bsD l), .any, .any, dn (bitsN (l.take j)), dn j, .any, .any, .any, .any, .any, .any, .any, .any, .any, .any, .any, .any, .any, .any, .any, .any, .any, .any, .any, .any] ∧ st = σ) l.length _
    (Wk.mask [0, 3, 4] ⟨0, by omega, by omega, rfl, rfl⟩) ?_
  rintro m fr st ⟨j, hj, hm, rfl, rfl⟩
  unfold bsD
  have d2 : decide ((j : Int) < 60) = true := decide_eq_true (by omega)
  rcases Nat.lt_or_ge j l.length with hlt | hge
  · have hd : decide ((j : Int) < (l.length : Int)) = true := by simp; omega
    have w2 := wrapS j (by omega)
    have g0 : List.getD (l.map D.bool) j default = .bool (l.getD j false) := getD_mapD hlt
    have htk : l.take (j + 1) = l.take j ++ [l.getD j false] := take_getD false hlt
    have hsn := bitsN_snoc (l.take j) (l.getD j false)
    have hlen : (l.take j).length = j := by rw [List.length_take]; omega
    have hlt2 := bitsN_lt (l.take j)
    have hp : 2 ^ j ≤ 2 ^ 40 := Nat.pow_le_pow_right (by decide) (by omega)
    have h40 : (2 : Nat) ^ 40 = 1099511627776 := by decide
    rw [hlen] at hsn hlt2
    rw [← htk] at hsn
    have w3 := shl_pow (i := j) (by omega)
    have w5 : IntKind.u64.wrap (j : Int) = (j : Int) := by
      have : (2 : Int) ^ 64 = 18446744073709551616 := by decide
      simp only [IntKind.wrap, IntKind.bits, IntKind.signed, Bool.false_and, Bool.false_eq_true, if_false]
      show (j : Int) % 18446744073709551616 = j
      omega
    have w4 : IntKind.i64.wrap ((bitsN (l.take j) : Int) + ((2 ^ j : Nat) : Int)) = ((bitsN (l.take j) + 2 ^ j : Nat) : Int) := by rw [wrap64_id _ (by omega) (by omega)]; omega
    simp only [go_sem, List.length_map, hd, d2, g0, w2, w3, w4, w5, Try.results27]
    refine ⟨⟨by omega, by omega⟩, fun e => ⟨by omega, Wk.mask [0, 3, 4] ⟨l.length - (j + 1), by omega, j + 1, by omega, rfl, ?_, rfl⟩⟩, fun e => Wk.mask [0, 3, 4] ⟨l.length - (j + 1), by omega, j + 1, by omega, rfl, ?_, rfl⟩⟩
    · rw [hsn, e]; rfl
    · rw [hsn, e]; rfl
  · have hd : decide ((j : Int) < (l.length : Int)) = false := by simp; omega
    have htk : l.take j = l := List.take_of_length_le hge
    simp only [go_sem, List.length_map, hd, d2, htk, Try.results27]
    exact ret_d0 h
theorem sameR_ac (l : List Int) (hl : l.length ≤ 1000000) (σ : St) (G : Glob) (R : A → St → Prop) (h : R (db true) σ) : AC Try.prog G 30 [.d (isD l), .d (isD l)] σ R := by
  unfold isD
  refine ac_enter mixed Try.func30 rfl Try.ntmps30 (by simp only [go_sem]) fun hbd => ?_
  simp only [List.length_cons, List.length_nil, Nat.reduceAdd, Nat.reduceSub, List.replicate_succ, List.replicate_zero, List.cons_append, List.nil_append]
  have z0 : ((l.length : Int) != (l.length : Int)) = false := by simp
  simp only [go_sem, List.length_map, z0, Try.results30]
  refine aw_loop (fun m fr st => ∃ j : Nat, j ≤ l.length ∧ m = l.length - j ∧ fr = [.d (isD l), .d (isD l), .any, .any, db false, dn j, .any, .any, .any, .any, .any, .any, .any, .any, .any, .any, .any, .any, .any, .any, .any, .any, .any, .any, .any, .any] ∧ st = σ) l.length _
    (Wk.mask [0, 1, 4, 5] ⟨0, by omega, by omega, rfl, rfl⟩) ?_
  rintro m fr st ⟨j, hj, hm, rfl, rfl⟩
  unfold isD
  rcases Nat.lt_or_ge j l.length with hlt | hge
  · have hd : decide ((j : Int) < (l.length : Int)) = true := by simp; omega
    have w2 := wrapS j (by omega)
    have g0 : List.getD (l.map iD) j default = iD (l.getD j 0) := getD_mapD hlt
    have z1 : (l.getD j 0 != l.getD j 0) = false := by simp
    simp only [go_sem, List.length_map, hd, g0, w2, z1, Try.results30]
    exact ⟨⟨by omega, by omega⟩, ⟨by omega, by omega⟩, Wk.mask [0, 1, 4, 5] ⟨l.length - (j + 1), by omega, j + 1, by omega, rfl, rfl, rfl⟩⟩
  · have hd : decide ((j : Int) < (l.length : Int)) = false := by simp; omega
    simp only [go_sem, List.length_map, hd, Try.results30]
    exact ret_d0 h
theorem sameSteps_ac (l : List (List Int × List Nat)) (hl : l.length ≤ 1000000) (hs : ∀ s ∈ l, s.1.length ≤ 1000000 ∧ s.2.length ≤ 1000000) (σ : St) (G : Glob) (R : A → St → Prop) (h : R (db true) σ) : AC Try.prog G 31 [.d (prfD l), .d (prfD l)] σ R := by
  unfold prfD
  refine ac_enter mixed Try.func31 rfl Try.ntmps31 (by simp only [go_sem]) fun hbd => ?_
  simp only [List.length_cons, List.length_nil, Nat.reduceAdd, Nat.reduceSub, List.replicate_succ, List.replicate_zero, List.cons_append, List.nil_append]
  have z0 : ((l.length : Int) != (l.length : Int)) = false := by simp
  simp only [go_sem, List.length_map, z0, Try.results31]
  refine aw_loop (fun m fr st => ∃ j : Nat, j ≤ l.length ∧ m = l.length - j ∧ fr = [.d (prfD l), .d (prfD l), .any, .any, db false, dn j, .any, .any, .any, .any, .any, .any, .any, .any, .any, .any, .any, .any, .any, .any, .any, .any, .any, .any, .any, .any, .any, .any, .any, .any, .any, .any, .any, .any, .any, .any, .any, .any, .any, .any, .any, .any, .any] ∧ st = σ) l.length _
    (Wk.mask [0, 1, 4, 5] ⟨0, by omega, by omega, rfl, rfl⟩) ?_
  rintro m fr st ⟨j, hj, hm, rfl, rfl⟩
  unfold prfD
  rcases Nat.lt_or_ge j l.length with hlt | hge
  · have hd : decide ((j : Int) < (l.length : Int)) = true := by simp; omega
    have w2 := wrapS j (by omega)
    have g0 : List.getD (l.map lnD) j default = lnD (l.getD j ([], [])) := getD_mapD hlt
    obtain ⟨h1, h2⟩ := hs _ (getD_mem ([], []) hlt)
    generalize l.getD j ([], []) = s at g0 h1 h2
    simp only [go_sem, List.length_map, hd, g0, w2, lnD, isD, nsD, Try.results31]
    refine ⟨⟨by omega, by omega⟩, ⟨by omega, by omega⟩, ac' (sameR_ac s.1 h1 _ _ _ ?_)⟩
    simp only [go_sem, List.length_map, hd, g0, w2, lnD, isD, nsD, Try.results31]
    refine ⟨⟨by omega, by omega⟩, ⟨by omega, by omega⟩, ex' (.bool true) ⟨fun q => ?_, ?_⟩⟩
    · have e : s.2.map (fun n : Nat => iD n) = (s.2.map fun n : Nat => (n : Int)).map iD := by rw [List.map_map]; rfl
      simp only [go_sem]
      rw [e]
      exact ac' (sameR_ac (s.2.map fun n : Nat => (n : Int)) (by rw [List.length_map]; exact h2) _ _ _ (And.intro rfl rfl))
    simp only [go_sem, List.length_map, hd, g0, w2, lnD, isD, nsD, Try.results31]
    exact Wk.mask [0, 1, 4, 5] ⟨l.length - (j + 1), by omega, j + 1, by omega, rfl, rfl, rfl⟩
  · have hd : decide ((j : Int) < (l.length : Int)) = false := by simp; omega
    simp only [go_sem, List.length_map, hd, Try.results31]
    exact ret_d0 h
end Go.Proofs.Ytnanofipjiclfaa
end PartX7
