import Derived.Test.YtfoblkeefpaceaaX73

section PartK5
/- The checker: one report; some kids; an expression with its own width. -/
set_option linter.unusedSimpArgs false
set_option linter.unusedVariables false
set_option maxRecDepth 100000
namespace Go.Proofs.Ytfoblkeefpaceaa
open Go Go.Ab

theorem pre1 {a b c w : List Dg} (h : a ++ (b ++ c) <+: w) : a ++ b <+: w := by
  rw [← List.append_assoc] at h; exact (List.prefix_append _ _).trans h
theorem pre2 {a b c w : List Dg} (h : a ++ (b ++ c) <+: w) : a ++ b ++ c <+: w := by rw [← List.append_assoc] at h; exact h
/-- What is done with a tree: it comes to reports; what follows holds of the store with them. -/
def Does' (X : Kx) (G : Glob) (W : List Dg) (σ0 : St) (B : Bnd) (ds ms : List Dg) (ib il : Nat) (σ : St) (R : A → St → Prop) : Prop :=
  ∀ r ib' il' σ', Ck X G W σ0 B (ds ++ ms) ib' il' σ' → Stq X ib il σ ib' il' σ' → R r σ'
section
variable {X : Kx} {G : Glob} {W : List Dg} {σ0 : St}
theorem Ck.local_ {B : Bnd} {ds : List Dg} {ib il : Nat} {σ : St} (h : Ck X G W σ0 B ds ib il σ) : σ.length ≠ X.ic ∧ σ.length ≠ X.ig ∧ σ.length ≠ ib ∧ σ.length ≠ il := by
  have h1 := lt_of_some h.rd.c; have h2 := lt_of_some h.g; have h3 := lt_of_some h.rd.b; have h4 := lt_of_some h.l
  omega
theorem check_ac {B : Bnd} {ds : List Dg} {ib il : Nat} {σ : St} (hC : Ck X G W σ0 B ds ib il σ) (e : Nd) (wrong : Bool) (err : Int) (hW : ds ++ rep wrong err e.pos <+: W) (R : A → St → Prop) (h : Does' X G W σ0 B ds (rep wrong err e.pos) ib il σ R) :
    AC Try.prog G 53 [.ref X.ic 0, .d e.d, db wrong, di err] σ R := by
  rw [Nd.d_eq]
  refine ac_enter' mixed Try.func53 rfl Try.ntmps53 (by simp only [go_sem]) fun hbd => ?_
  simp only [List.length_cons, List.length_nil, Nat.reduceAdd, Nat.reduceSub, List.replicate_succ, List.replicate_zero, List.cons_append, List.nil_append]
  cases wrong
  · simp only [go_sem, Try.results53]
    have hC2 := hC.app [some (.cells [.d (iD e.kind), .d (.str e.name), .d (.str e.other), .d (iD e.n), .d (iD e.len), .d (iD e.init), .d (.bool e.ghost), .d (.sl 9 (e.kids.map Nd.d)), .d (iD e.pos)])]
    refine ⟨_, _, Weak.refl _ _ _ _, h _ ib il _ ?_ (Stq.app (Stq.refl _ _ _ _))⟩
    simpa [rep] using hC2
  · have hC2 := hC.app [some (.cells [.d (iD e.kind), .d (.str e.name), .d (.str e.other), .d (iD e.n), .d (iD e.len), .d (iD e.init), .d (.bool e.ghost), .d (.sl 9 (e.kids.map Nd.d)), .d (iD e.pos)])]
    have hc := hC.rd.c
    unfold chk at hc
    simp only [go_sem, Try.results53]
    refine aw_plan (.tk 8 0 <| .done) (by kernel_rfl) ?_
    simp only [go_sem, live_old hc, objK_old hc, Try.results53]
    refine ac' (report_ac hC2 err e.pos hW _ fun r il' σ' k1 k2 => ?_)
    exact ⟨_, _, Weak.refl _ _ _ _, h _ _ _ _ k1 (Stq.app k2)⟩
/-- Does a tree fit behind the bound variables? -/
def FitB (B : Bnd) (e : Nd) : Prop := B.length + e.nodes ≤ 10000 ∨ e = Nd.none
theorem mem_sum {l : List Nat} {x : Nat} (h : x ∈ l) : x ≤ l.sum := by
  induction l with
  | nil => cases h
  | cons a r ih =>
    simp only [List.sum_cons]
    rcases List.mem_cons.1 h with rfl | h
    · omega
    · have := ih h; omega
theorem kid_nodes {e : Nd} {i : Nat} : (e.kid i).nodes + 1 ≤ e.nodes ∨ e.kid i = Nd.none := by
  rcases Nat.lt_or_ge i e.kids.length with h | h
  · left
    have hm : e.kid i ∈ e.kids := getD_mem _ h
    have := mem_sum (List.mem_map_of_mem (f := Nd.nodes) hm)
    rw [Nd.nodes_eq e]; omega
  · right
    unfold Nd.kid; rw [List.getD_eq_getElem?_getD, List.getElem?_eq_none h]; rfl
theorem FitB.kid {B : Bnd} {e : Nd} (h : FitB B e) (i : Nat) : FitB B (e.kid i) := by
  rcases kid_nodes (e := e) (i := i) with h1 | h1
  · rcases h with h | rfl
    · left; omega
    · right; simp [Nd.kid, Nd.none, Nd.kids]
  · exact .inr h1
/-- What a check of an expression comes to. -/
def ExprAt (X : Kx) (G : Glob) (W : List Dg) (σ0 : St) (e : Nd) : Prop := ∀ (B : Bnd) (ds : List Dg) (ib il : Nat) (σ : St) (w : Nat), w ≤ 8 → Ck X G W σ0 B ds ib il σ → FitB B e → ds ++ exprM X.C e B w <+: W →
  ∀ R : A → St → Prop, Does' X G W σ0 B ds (exprM X.C e B w) ib il σ R → AC Try.prog G 36 [.ref X.ic 0, .d e.d, dn w] σ R
def kidsM (E : Nd → List Dg) (e : Nd) (i j : Nat) : List Dg := (List.range' i (j - i)).flatMap fun k => E (e.kid k)
theorem kidsM_nil (E : Nd → List Dg) (e : Nd) (i : Nat) : kidsM E e i i = [] := by simp [kidsM]
theorem kidsM_snoc (E : Nd → List Dg) (e : Nd) {i k : Nat} (h : i ≤ k) : kidsM E e i (k + 1) = kidsM E e i k ++ E (e.kid k) := by
  unfold kidsM
  have e1 : k + 1 - i = (k - i) + 1 := by omega
  have e2 : i + (k - i) = k := by omega
  rw [e1, List.range'_1_concat, List.flatMap_append, e2]; simp
theorem kidsM_pre (E : Nd → List Dg) (e : Nd) {i k j : Nat} (h : i ≤ k) (h2 : k ≤ j) : kidsM E e i k <+: kidsM E e i j := by
  obtain ⟨n, rfl⟩ := Nat.le.dest h2
  induction n with
  | zero => exact List.prefix_rfl
  | succ n ih => rw [show k + (n + 1) = (k + n) + 1 by omega, kidsM_snoc E e (by omega)]; exact (ih (by omega)).trans (List.prefix_append _ _)
theorem kids_ac {e : Nd} (hok : e.Ok) (i j : Nat) (hij : i ≤ j) (hj : j < 1000) (w : Nat) (hw : w ≤ 8) (ih : ∀ k, ExprAt X G W σ0 (e.kid k)) {B : Bnd} {ds : List Dg} {ib il : Nat} {σ : St} (hC : Ck X G W σ0 B ds ib il σ) (hf : ∀ k, FitB B (e.kid k))
    (hW : ds ++ kidsM (fun k => exprM X.C k B w) e i j <+: W) (R : A → St → Prop) (h : Does' X G W σ0 B ds (kidsM (fun k => exprM X.C k B w) e i j) ib il σ R) : AC Try.prog G 59 [.ref X.ic 0, .d e.d, dn i, dn j, dn w] σ R := by
  rw [Nd.d_eq]
  refine ac_enter mixed Try.func59 rfl Try.ntmps59 (by simp only [go_sem]) fun hbd => ?_
  simp only [List.length_cons, List.length_nil, Nat.reduceAdd, Nat.reduceSub, List.replicate_succ, List.replicate_zero, List.cons_append, List.nil_append]
  simp only [go_sem, Try.results59]
  obtain ⟨q1, q2, q3, q4⟩ := hC.local_
  refine aw_loop (fun m fr st => ∃ k ib' il', i ≤ k ∧ k ≤ j ∧ m = j - k ∧ Ck X G W σ0 B (ds ++ kidsM (fun k => exprM X.C k B w) e i k) ib' il' st ∧ Stq X ib il (σ ++ [some (.cells [.d (iD e.kind), .d (.str e.name), .d (.str e.other), .d (iD e.n), .d (iD e.len), .d (iD e.init), .d (.bool e.ghost), .d (.sl 9 (e.kids.map Nd.d)), .d (iD e.pos)])]) ib' il' st ∧
    fr = [.ref X.ic 0, .any, dn k, dn j, dn w, .any, .ref σ.length 0, .any, .any, .any, .any, .any, .any, .any, .any, .any, .any, .any, .any, .any, .any]) (j - i) _ ?_ ?_
  · refine Wk.mask [0, 2, 3, 4, 6] ⟨i, ib, il, Nat.le_refl _, hij, rfl, ?_, Stq.refl _ _ _ _, rfl⟩
    rw [kidsM_nil, List.append_nil]; exact hC.app _
  rintro m fr st ⟨k, ib', il', hik, hkj, rfl, hCk, hst, rfl⟩
  obtain ⟨hloc, hb2, hl2⟩ := hst.at_ (i := σ.length) (by simp) q1 q2 q3 q4
  have hloc' : st[σ.length]? = some (some (.cells [.d (iD e.kind), .d (.str e.name), .d (.str e.other), .d (iD e.n), .d (iD e.len), .d (iD e.init), .d (.bool e.ghost), .d (.sl 9 (e.kids.map Nd.d)), .d (iD e.pos)])) := by
    rw [hloc, List.getElem?_append_right (Nat.le_refl _), Nat.sub_self]; rfl
  rcases Nat.lt_or_ge k j with hlt | hge
  · have hd : decide ((k : Int) < (j : Int)) = true := by simp; omega
    have w1 := wrapS k (by omega)
    simp only [go_sem, hd, live_of hloc', objK_of hloc', Try.results59]
    rw [← Nd.d_eq e]
    refine ac' (kid_ac e k (by omega) hok.len _ _ _ ?_)
    simp only [go_sem, Try.results59]
    have hpre := (List.prefix_append_right_inj ds).2 (kidsM_pre (fun k => exprM X.C k B w) e (i := i) (k := k + 1) (j := j) (by omega) hlt) |>.trans hW
    rw [kidsM_snoc _ _ hik] at hpre
    refine ac' (ih k B _ _ _ _ w hw hCk (hf k) (pre2 hpre) _ fun r ib2 il2 σ2 k1 k2 => ?_)
    simp only [go_sem, w1, Try.results59]
    refine Wk.mask [0, 2, 3, 4, 6] ⟨j - (k + 1), by omega, k + 1, ib2, il2, by omega, hlt, rfl, ?_, hst.trans k2, rfl⟩
    rw [kidsM_snoc _ _ hik, ← List.append_assoc]; exact k1
  · have hd : decide ((k : Int) < (j : Int)) = false := by simp; omega
    obtain rfl : k = j := by omega
    simp only [go_sem, hd, Try.results59]
    exact ⟨_, _, Weak.refl _ _ _ _, h _ _ _ _ hCk (Stq.app hst)⟩
theorem kids_one (E : Nd → List Dg) (e : Nd) : kidsM E e 0 1 = E (e.kid 0) := by simp [kidsM]
theorem kids_two (E : Nd → List Dg) (e : Nd) : kidsM E e 0 2 = E (e.kid 0) ++ E (e.kid 1) := by simp [kidsM, List.range']
theorem kids_rest (E : Nd → List Dg) (e : Nd) : kidsM E e 1 3 = E (e.kid 1) ++ E (e.kid 2) := by simp [kidsM, List.range']
theorem okayL (h : usableM X.S = true) : Okay X.L := okay_of h
theorem width_nat {B : Bnd} {e : Nd} (hu : usableM X.S = true) {w : Nat} (hw : w ≤ 8) : ∃ v : Nat, widthM (den X.L B) e w = v ∧ 1 ≤ v ∧ v ≤ 8 := by
  have := width_range (okayL hu) B e (w := w) ⟨by omega, by omega⟩
  exact ⟨(widthM (den X.L B) e w).toNat, by omega, by omega, by omega⟩
theorem free_ac {e : Nd} (hok : e.Ok) (he : ExprAt X G W σ0 e) (w : Nat) (hw : w ≤ 8) {B : Bnd} {ds : List Dg} {ib il : Nat} {σ : St} (hC : Ck X G W σ0 B ds ib il σ) (hf : FitB B e)
    (hW : ds ++ exprM X.C e B (widthM (den X.L B) e w) <+: W) (R : A → St → Prop) (h : Does' X G W σ0 B ds (exprM X.C e B (widthM (den X.L B) e w)) ib il σ R) : AC Try.prog G 88 [.ref X.ic 0, .d e.d, dn w] σ R := by
  obtain ⟨v, hv, h1, h8⟩ := width_nat (B := B) (e := e) hC.rd.us hw
  rw [hv] at hW h
  rw [Nd.d_eq]
  refine ac_enter' mixed Try.func88 rfl Try.ntmps88 (by simp only [go_sem]) fun hbd => ?_
  simp only [List.length_cons, List.length_nil, Nat.reduceAdd, Nat.reduceSub, List.replicate_succ, List.replicate_zero, List.cons_append, List.nil_append]
  simp only [go_sem, Try.results88]
  refine aw_plan (.take 0 <| .tk 3 2 <| .alt 1 (.tk 2 5 <| .done) <| .alt 5 (.take 1 <| .take 6 <| .done) <| .stop) (by kernel_rfl) ?_
  simp only [go_sem, Try.results88]
  have hC2 := hC.app [some (.cells [.d (iD e.kind), .d (.str e.name), .d (.str e.other), .d (iD e.n), .d (iD e.len), .d (iD e.init), .d (.bool e.ghost), .d (.sl 9 (e.kids.map Nd.d)), .d (iD e.pos)])]
  with_reducible apply And.intro
  all_goals
    rw [← Nd.d_eq e]
    refine ac' (width_ac hok _ _ hC2.rd _ _ ?_)
    rw [hv]
    simp only [go_sem, Try.results88]
    refine ac' ?_
    try rw [← Nd.d_eq e]
    refine he B ds ib il _ v h8 hC2 hf hW _ fun r ib2 il2 σ2 k1 k2 => ?_
    exact ⟨_, _, Weak.refl _ _ _ _, h _ _ _ _ k1 (Stq.app k2)⟩
end
end Go.Proofs.Ytfoblkeefpaceaa
end PartK5

section PartK6
/- The checker: references and their indexes. -/
set_option linter.unusedSimpArgs false
set_option linter.unusedVariables false
set_option maxRecDepth 100000
namespace Go.Proofs.Ytfoblkeefpaceaa
open Go Go.Ab

abbrev ncs (e : Nd) : Option Ob := some (.cells [.d (iD e.kind), .d (.str e.name), .d (.str e.other), .d (iD e.n), .d (iD e.len), .d (iD e.init), .d (.bool e.ghost), .d (.sl 9 (e.kids.map Nd.d)), .d (iD e.pos)])
abbrev mcs (m : Mn) : Option Ob := some (.cells [.d (iD m.kind), .d (iD m.num), .d (.str m.vr.name), .d (iD m.vr.w), .d (iD m.vr.len), .d (iD m.vr.init), .d (.bool m.vr.ghost), .d (iD m.vr.mod), .d (iD m.vr.pos)])
theorem mn_eq (m : Mn) : mnD m = .agg [iD m.kind, iD m.num, .str m.vr.name, iD m.vr.w, iD m.vr.len, iD m.vr.init, .bool m.vr.ghost, iD m.vr.mod, iD m.vr.pos] := rfl
section
variable {X : Kx} {G : Glob} {W : List Dg} {σ0 : St}
theorem idxE_ac {i : Nd} (hok : i.Ok) (he : ExprAt X G W σ0 i) {B : Bnd} {ds : List Dg} {ib il : Nat} {σ : St} (hC : Ck X G W σ0 B ds ib il σ) (hf : FitB B i) (m : Mn) (hm : ∀ k v, m = .var k v → k = 1 ∨ k = 2 ∨ k = 3)
    (hW : ds ++ indexM (fun k v => exprM X.C k B v) (den X.L B) m i <+: W) (R : A → St → Prop) (h : Does' X G W σ0 B ds (indexM (fun k v => exprM X.C k B v) (den X.L B) m i) ib il σ R) : AC Try.prog G 71 [.ref X.ic 0, .d (mnD m), .d i.d] σ R := by
  rw [Nd.d_eq, mn_eq]
  have hfree : outM (den X.L B) m i = false → ∀ l : St, ∀ R' : A → St → Prop, (∀ r ib' il' σ', Ck X G W σ0 B (ds ++ indexM (fun k v => exprM X.C k B v) (den X.L B) m i) ib' il' σ' → Stq X ib il (σ ++ l) ib' il' σ' → R' r σ') → AC Try.prog G 88 [.ref X.ic 0, .d i.d, di 0] (σ ++ l) R' := fun ho l R' hR' => by
    have hI : indexM (fun k v => exprM X.C k B v) (den X.L B) m i = exprM X.C i B (widthM (den X.L B) i ((0 : Nat) : Int)) := by
      unfold indexM; rw [if_neg (by rw [ho]; exact Bool.false_ne_true)]; rfl
    rw [hI] at hW
    refine free_ac hok he 0 (by omega) (hC.app l) hf hW R' ?_
    rw [hI] at hR'
    exact hR'
  have hout : outM (den X.L B) m i = true → indexM (fun k v => exprM X.C k B v) (den X.L B) m i = [⟨51, i.pos⟩] := fun ho => by
    unfold indexM; rw [if_pos ho]
  have hc := hC.rd.c
  unfold chk at hc
  refine ac_enter' mixed Try.func71 rfl Try.ntmps71 (by simp only [go_sem]) fun hbd => ?_
  simp only [List.length_cons, List.length_nil, Nat.reduceAdd, Nat.reduceSub, List.replicate_succ, List.replicate_zero, List.cons_append, List.nil_append]
  simp only [go_sem, Try.results71]
  rw [← mn_eq]
  refine ac' (decl_ac m _ _ _ ?_)
  cases m with
  | none =>
    have kd : ((Mn.none).kind != 0 && (Mn.none).kind != 4) = false := rfl
    have ho : outM (den X.L B) Mn.none i = false := rfl
    simp only [go_sem, kd, Try.results71]
    rw [← Nd.d_eq]
    refine ac' (hfree ho _ _ fun r ib2 il2 σ2 k1 k2 => ?_)
    exact ⟨_, _, Weak.refl _ _ _ _, h _ _ _ _ k1 (Stq.app k2)⟩
  | bound n =>
    have kd : ((Mn.bound n).kind != 0 && (Mn.bound n).kind != 4) = false := rfl
    have ho : outM (den X.L B) (Mn.bound n) i = false := rfl
    simp only [go_sem, kd, Try.results71]
    rw [← Nd.d_eq]
    refine ac' (hfree ho _ _ fun r ib2 il2 σ2 k1 k2 => ?_)
    exact ⟨_, _, Weak.refl _ _ _ _, h _ _ _ _ k1 (Stq.app k2)⟩
  | var k v =>
    have kd : ((Mn.var k v).kind != 0 && (Mn.var k v).kind != 4) = true := by
      rcases hm k v rfl with rfl | rfl | rfl <;> rfl
    have kv : (Mn.var k v).vr = v := rfl
    by_cases hlen : 0 < v.len
    · have dl : decide (0 < v.len) = true := by simpa using hlen
      simp only [go_sem, kd, kv, dl, Try.results71]
      by_cases k2 : i.kind = 2
      · have c2 := beq_t k2
        have c1 : (i.kind == 1) = false := beq_f (by omega)
        simp only [go_sem, kd, kv, dl, c1, c2, Try.results71]
        refine ac' ((hC.rd.app _).den i.name hok.nm _ _ ?_)
        have ho : outM (den X.L B) (Mn.var k v) i = ((den X.L B i.name).kind == 4 && decide (v.len < (den X.L B i.name).num)) := by
          simp only [outM, dl, if_pos k2, Bool.true_and]
          cases hd : den X.L B i.name with
          | none => rfl
          | bound n => rfl
          | var k' v' => rcases den_kind hd with rfl | rfl | rfl <;> rfl
        simp only [mn_eq, go_sem, kd, kv, dl, c1, c2, Try.results71]
        rw [← ho]
        refine ⟨fun c => ?_, fun c => ?_⟩
        · refine aw_plan (.tk 7 0 <| .done) (by kernel_rfl) ?_
          simp only [go_sem, live_old hc, objK_old hc, Try.results71]
          rw [hout c] at hW h
          refine ac' (report_ac (hC.app _) 51 i.pos hW _ fun r il' σ' k1 k2 => ?_)
          exact ⟨_, _, Weak.refl _ _ _ _, h _ _ _ _ k1 (Stq.app k2)⟩
        · rw [← Nd.d_eq]
          refine ac' (hfree c _ _ fun r ib2 il2 σ2 k1 k2 => ?_)
          exact ⟨_, _, Weak.refl _ _ _ _, h _ _ _ _ k1 (Stq.app k2)⟩
      · have c2 := beq_f k2
        have ho : outM (den X.L B) (Mn.var k v) i = (i.kind == 1 && (decide (i.n < 0) || decide (v.len ≤ i.n))) := by
          simp only [outM, dl, if_neg k2, Bool.true_and]
        simp only [go_sem, kd, kv, dl, c2, Try.results71]
        rw [← ho]
        refine ⟨fun c => ⟨c, fun c' => by rw [c, c']; rfl⟩, fun c => ?_, fun c => ?_⟩
        · refine aw_plan (.tk 7 0 <| .done) (by kernel_rfl) ?_
          simp only [go_sem, live_old hc, objK_old hc, Try.results71]
          rw [hout c] at hW h
          refine ac' (report_ac (hC.app _) 51 i.pos hW _ fun r il' σ' k1 k2 => ?_)
          exact ⟨_, _, Weak.refl _ _ _ _, h _ _ _ _ k1 (Stq.app k2)⟩
        · rw [← Nd.d_eq]
          refine ac' (hfree c _ _ fun r ib2 il2 σ2 k1 k2 => ?_)
          exact ⟨_, _, Weak.refl _ _ _ _, h _ _ _ _ k1 (Stq.app k2)⟩
    · have dl : decide (0 < v.len) = false := by simpa using hlen
      have ho : outM (den X.L B) (Mn.var k v) i = false := by simp only [outM, dl, Bool.false_and]
      simp only [go_sem, kd, kv, dl, Try.results71]
      rw [← Nd.d_eq]
      refine ac' (hfree ho _ _ fun r ib2 il2 σ2 k1 k2 => ?_)
      exact ⟨_, _, Weak.refl _ _ _ _, h _ _ _ _ k1 (Stq.app k2)⟩
theorem nonempty_dec (e : Nd) : decide ((0 : Int) < (e.kids.length : Int)) = !e.kids.isEmpty := by
  cases e.kids with
  | nil => rfl
  | cons a r => simp
set_option maxHeartbeats 8000000 in
theorem ref_ac {e : Nd} (hok : e.Ok) (ih : ∀ k, ExprAt X G W σ0 (e.kid k)) (w : Nat) (hw : w ≤ 8) {B : Bnd} {ds : List Dg} {ib il : Nat} {σ : St} (hC : Ck X G W σ0 B ds ib il σ) (hf : FitB B e)
    (hW : ds ++ refM (fun k v => exprM X.C k B v) (den X.L B) e w <+: W) (R : A → St → Prop) (h : Does' X G W σ0 B ds (refM (fun k v => exprM X.C k B v) (den X.L B) e w) ib il σ R) : AC Try.prog G 55 [.ref X.ic 0, .d e.d, dn w] σ R := by
  obtain ⟨m, hm⟩ : ∃ m, den X.L B e.name = m := ⟨_, rfl⟩
  have hmk : ∀ k v, m = .var k v → k = 1 ∨ k = 2 ∨ k = 3 := fun k v hk => by rw [hk] at hm; exact den_kind hm
  have hmn : I64 m.num := hm ▸ den_num hC.rd.hN e.name
  unfold refM at hW h
  rw [hm] at hW h
  have hW1 := pre1 hW
  have hW2 := pre2 hW
  obtain ⟨q1, q2, q3, q4⟩ := hC.local_
  have hc := hC.rd.c
  unfold chk at hc
  rw [Nd.d_eq]
  refine ac_enterC' [12] mixed Try.func55 rfl Try.ntmps55 (by simp only [go_sem]) fun hbd => ?_
  simp only [List.length_cons, List.length_nil, Nat.reduceAdd, Nat.reduceSub, List.replicate_succ, List.replicate_zero, List.cons_append, List.nil_append]
  simp only [go_sem, Try.results55]
  refine ac' ((hC.rd.app _).den e.name hok.nm _ _ ?_)
  rw [hm]
  simp only [mn_eq, go_sem, List.length_map, nonempty_dec, Try.results55]
  refine aw_cut (fun fr st => ∃ ib' il', Ck X G W σ0 B (ds ++ refOwn m (!e.kids.isEmpty) w e.pos) ib' il' st ∧ Stq X ib il (σ ++ [ncs e, mcs m]) ib' il' st ∧ fr = [.ref X.ic 0, .any, .any, .any, .ref σ.length 0, .any, .ref (σ.length + 1) 0, db (!e.kids.isEmpty), .any, .any, .any, .any, .any, .any, .any, .any, .any, .any, .any, .any, .any, .any, .any, .any, .any, .any, .any, .any, .any, .any, .any, .any, .any, .any, .any, .any, .any, .any, .any, .any, .any, .any, .any, .any, .any, .any, .any, .any, .any, .any, .any, .any, .any, .any, .any, .any, .any, .any, .any, .any, .any, .any, .any, .any, .any, .any, .any, .any, .any, .any, .any, .any, .any, .any, .any, .any, .any, .any, .any, .any, .any, .any, .any]) ?_ ?_
  · have hrep : ∀ err : Int, refOwn m (!e.kids.isEmpty) w e.pos = [⟨err, e.pos⟩] → ∀ R' : A → St → Prop, (∀ r ib' il' σ', Ck X G W σ0 B (ds ++ refOwn m (!e.kids.isEmpty) w e.pos) ib' il' σ' → Stq X ib il (σ ++ [ncs e, mcs m]) ib' il' σ' → R' r σ') → AC Try.prog G 50 [di err, di e.pos, .ref X.ig 0] (σ ++ [ncs e, mcs m]) R' := fun err he R' hR' => by
      rw [he] at hW1 hR'
      exact report_ac (hC.app _) err e.pos hW1 R' fun r il' σ' k1 k2 => hR' _ _ _ _ k1 k2
    have hchk : ∀ b : Bool, refOwn m (!e.kids.isEmpty) w e.pos = rep b 50 e.pos → ∀ R' : A → St → Prop, (∀ r ib' il' σ', Ck X G W σ0 B (ds ++ refOwn m (!e.kids.isEmpty) w e.pos) ib' il' σ' → Stq X ib il (σ ++ [ncs e, mcs m]) ib' il' σ' → R' r σ') → AC Try.prog G 53 [.ref X.ic 0, .d e.d, db b, di 50] (σ ++ [ncs e, mcs m]) R' := fun b he R' hR' => by
      rw [he] at hW1 hR'
      exact check_ac (hC.app _) e b 50 hW1 R' hR'
    cases m with
    | none =>
      have m4 : ((Mn.none).kind == 4) = false := rfl
      have m0 : ((Mn.none).kind == 0) = true := rfl
      simp only [go_sem, m4, m0, Try.results55]
      refine aw_plan (.tk 7 0 <| .done) (by kernel_rfl) ?_
      simp only [go_sem, live_old hc, objK_old hc, Try.results55]
      refine ac' (hrep 40 rfl _ fun r ib2 il2 σ2 k1 k2 => ?_)
      simp only [go_sem, Try.results55]
      exact Wk.mask [0, 4, 6, 7] ⟨ib2, il2, k1, k2, rfl⟩
    | bound n =>
      have m4 : ((Mn.bound n).kind == 4) = true := rfl
      cases hi : (!e.kids.isEmpty)
      · simp only [go_sem, m4, hi, Try.results55]
        refine aw_plan (.take 0 <| .take 2 <| .take 4 <| .pure 3 <| .pure 5 <| .take 1 <| .tk 2 6 <| .done) (by kernel_rfl) ?_
        simp only [go_sem, Try.results55]
        refine exP (di (topM n)) ⟨fun σ' => ?_, ?_⟩
        · simp only [go_sem, Try.results55]
          rw [← mn_eq]
          exact ac' (top_ac (Mn.bound n) hmn _ _ _ ⟨rfl, rfl⟩)
        simp only [go_sem, Try.results55]
        refine exP (db (fitsM (topM n) w)) ⟨fun σ' => ?_, ?_⟩
        · simp only [go_sem, Try.results55]
          exact ac' (fits_ac (topM n) w hw _ _ _ ⟨rfl, rfl⟩)
        simp only [go_sem, Try.results55]
        rw [← Nd.d_eq e, ← hi]
        refine ac' (hchk (!fitsM (topM n) w) (by rw [hi]; rfl) _ fun r ib2 il2 σ2 k1 k2 => ?_)
        simp only [go_sem, Try.results55]
        exact Wk.mask [0, 4, 6, 7] ⟨ib2, il2, k1, k2, rfl⟩
      · simp only [go_sem, m4, hi, Try.results55]
        refine aw_plan (.tk 7 0 <| .done) (by kernel_rfl) ?_
        simp only [go_sem, live_old hc, objK_old hc, Try.results55]
        rw [← hi]
        refine ac' (hrep 51 (by rw [hi]; rfl) _ fun r ib2 il2 σ2 k1 k2 => ?_)
        simp only [go_sem, Try.results55]
        exact Wk.mask [0, 4, 6, 7] ⟨ib2, il2, k1, k2, rfl⟩
    | var k v =>
      have m4 : ((Mn.var k v).kind == 4) = false := by rcases hmk k v rfl with rfl | rfl | rfl <;> rfl
      have m0 : ((Mn.var k v).kind == 0) = false := by rcases hmk k v rfl with rfl | rfl | rfl <;> rfl
      have kv : (Mn.var k v).vr = v := rfl
      have hov : refOwn (Mn.var k v) (!e.kids.isEmpty) w e.pos = if ((!e.kids.isEmpty) != decide (0 < v.len)) = true then [⟨51, e.pos⟩] else rep (v.w != (w : Int)) 50 e.pos := rfl
      have hne : (!(!e.kids.isEmpty) == decide (0 < v.len)) = ((!e.kids.isEmpty) != decide (0 < v.len)) := rfl
      simp only [go_sem, m4, m0, kv, Try.results55]
      refine ⟨fun c => ?_, fun c => ?_⟩
      · refine aw_plan (.tk 7 0 <| .done) (by kernel_rfl) ?_
        simp only [go_sem, live_old hc, objK_old hc, Try.results55]
        refine ac' (hrep 51 (by rw [hov]; exact if_pos c) _ fun r ib2 il2 σ2 k1 k2 => ?_)
        simp only [go_sem, Try.results55]
        exact Wk.mask [0, 4, 6, 7] ⟨ib2, il2, k1, k2, rfl⟩
      · rw [← Nd.d_eq e]
        refine ac' (hchk (v.w != (w : Int)) (by rw [hov]; exact if_neg (fun c' => by rw [hne] at c; rw [c] at c'; cases c')) _ fun r ib2 il2 σ2 k1 k2 => ?_)
        simp only [go_sem, Try.results55]
        exact Wk.mask [0, 4, 6, 7] ⟨ib2, il2, k1, k2, rfl⟩
  · rintro fr st ⟨ib', il', hCk, hst, rfl⟩
    have t1 := lt_of_some hC.rd.c; have t2 := lt_of_some hC.g; have t3 := lt_of_some hC.rd.b; have t4 := lt_of_some hC.l
    obtain ⟨hloc, -, -⟩ := hst.at_ (i := σ.length) (by simp) q1 q2 q3 q4
    obtain ⟨hlom, -, -⟩ := hst.at_ (i := σ.length + 1) (by simp) (by omega) (by omega) (by omega) (by omega)
    rw [List.getElem?_append_right (Nat.le_refl _), Nat.sub_self] at hloc
    rw [List.getElem?_append_right (by omega), Nat.add_sub_cancel_left] at hlom
    have hloc' : st[σ.length]? = some (ncs e) := hloc
    have hlom' : st[σ.length + 1]? = some (mcs m) := hlom
    cases hi : e.kids.isEmpty
    · rw [hi] at hW2 h hCk
      simp only [Bool.false_eq_true, if_false] at hW2 h
      have hlt : 0 < e.kids.length := by
        cases hk : e.kids with
        | nil => rw [hk] at hi; cases hi
        | cons a r => simp
      have e1 := kid_d hlt
      have hc2 := hCk.rd.c
      simp only [go_sem, Bool.not_false, Try.results55]
      refine aw_plan (.tk 7 0 <| .done) (by kernel_rfl) ?_
      simp only [go_sem, live_of hloc', objK_of hloc', live_of hlom', objK_of hlom', List.length_map, e1, Nd.cs, Int.toNat_zero, Try.results55]
      rw [← mn_eq, ← Nd.d_eq (e.kid 0)]
      refine ⟨⟨by omega, by omega⟩, ac' (idxE_ac (hok.kid 0) (ih 0) hCk (hf.kid 0) m hmk hW2 _ fun r ib2 il2 σ2 k1 k2 => ?_)⟩
      rw [List.append_assoc] at k1
      exact ⟨_, _, Weak.refl _ _ _ _, h _ _ _ _ k1 (Stq.app (hst.trans k2))⟩
    · rw [hi] at h hCk
      simp only [if_true, List.append_nil] at h
      simp only [go_sem, Bool.not_true, Try.results55]
      exact ⟨_, _, Weak.refl _ _ _ _, h _ _ _ _ hCk (Stq.app hst)⟩
end
end Go.Proofs.Ytfoblkeefpaceaa
end PartK6

section PartK7
/- The checker: binary expressions. -/
set_option linter.unusedSimpArgs false
set_option linter.unusedVariables false
set_option maxRecDepth 100000
namespace Go.Proofs.Ytfoblkeefpaceaa
open Go Go.Ab

section
variable {X : Kx} {G : Glob} {W : List Dg} {σ0 : St}
/-- One's own tree stays where it lies. -/
theorem Stq.tree {B : Bnd} {ds : List Dg} {ib il ib' il' : Nat} {σ st : St} {e : Nd} (hC : Ck X G W σ0 B ds ib il σ) (h : Stq X ib il (σ ++ [ncs e]) ib' il' st) : st[σ.length]? = some (ncs e) := by
  obtain ⟨q1, q2, q3, q4⟩ := hC.local_
  obtain ⟨hloc, -, -⟩ := h.at_ (i := σ.length) (by simp) q1 q2 q3 q4
  rw [hloc, List.getElem?_append_right (Nat.le_refl _), Nat.sub_self]; rfl
theorem inner_nat {B : Bnd} (hu : usableM X.S = true) (a b : Nd) : ∃ v : Nat, innerM (den X.L B) a b = v ∧ 1 ≤ v ∧ v ≤ 8 := by
  have h1 := orM_range (own_range (okayL hu) B a) (own_range (okayL hu) B b)
  have h2 := least_pos (den X.L B) a
  have h3 := least_pos (den X.L B) b
  have : 1 ≤ innerM (den X.L B) a b ∧ innerM (den X.L B) a b ≤ 8 := by
    unfold innerM; split <;> omega
  exact ⟨(innerM (den X.L B) a b).toNat, by omega, by omega, by omega⟩
theorem own_nat {B : Bnd} (hu : usableM X.S = true) (a b : Nd) : ∃ v : Nat, orM (ownM (den X.L B) a) (ownM (den X.L B) b) = v ∧ v ≤ 8 := by
  have h1 := orM_range (own_range (okayL hu) B a) (own_range (okayL hu) B b)
  exact ⟨(orM (ownM (den X.L B) a) (ownM (den X.L B) b)).toNat, by omega, by omega⟩
set_option maxHeartbeats 8000000 in
theorem binary_ac {e : Nd} (hok : e.Ok) (ih : ∀ k, ExprAt X G W σ0 (e.kid k)) (w : Nat) (hw : w ≤ 8) {B : Bnd} {ds : List Dg} {ib il : Nat} {σ : St} (hC : Ck X G W σ0 B ds ib il σ) (hf : FitB B e)
    (hW : ds ++ binM (fun k v => exprM X.C k B v) (den X.L B) e w <+: W) (R : A → St → Prop) (h : Does' X G W σ0 B ds (binM (fun k v => exprM X.C k B v) (den X.L B) e w) ib il σ R) : AC Try.prog G 60 [.ref X.ic 0, .d e.d, dn w] σ R := by
  have hc := hC.rd.c
  unfold chk at hc
  have hC2 := hC.app [ncs e]
  unfold binM at hW h
  rw [Nd.d_eq]
  refine ac_enter' mixed Try.func60 rfl Try.ntmps60 (by simp only [go_sem]) fun hbd => ?_
  simp only [List.length_cons, List.length_nil, Nat.reduceAdd, Nat.reduceSub, List.replicate_succ, List.replicate_zero, List.cons_append, List.nil_append]
  simp only [go_sem, Try.results60]
  refine ac' (op_ac e.name _ _ _ ?_)
  by_cases o1 : opM e.name = 1
  · have d1 := beq_t o1
    rw [if_pos o1] at hW h
    rw [← kids_two (fun k => exprM X.C k B 1)] at hW h
    simp only [go_sem, d1, Try.results60]
    rw [← Nd.d_eq e]
    refine ac' (check_ac hC2 e ((w : Int) != 1) 50 (pre1 hW) _ fun r ib2 il2 σ2 k1 k2 => ?_)
    have hloc := Stq.tree hC k2
    simp only [go_sem, live_of hloc, objK_of hloc, Try.results60]
    rw [← Nd.d_eq e]
    refine ac' (kids_ac hok 0 2 (by omega) (by omega) 1 (by omega) ih k1 (fun k => hf.kid k) (pre2 hW) _ fun r ib3 il3 σ3 k3 k4 => ?_)
    simp only [go_sem, Try.results60]
    refine ⟨_, _, Weak.refl _ _ _ _, h _ _ _ _ ?_ (Stq.app (k2.trans k4))⟩
    rw [List.append_assoc] at k3; exact k3
  have d1 := beq_f o1
  rw [if_neg o1] at hW h
  by_cases o2 : opM e.name = 2
  · have d2 := beq_t o2
    rw [if_pos o2] at hW h
    obtain ⟨v, hv, hv1, hv8⟩ := inner_nat (B := B) hC.rd.us (e.kid 0) (e.kid 1)
    rw [hv] at hW h
    rw [← kids_two (fun k => exprM X.C k B (v : Int))] at hW h
    simp only [go_sem, d1, d2, Try.results60]
    rw [← Nd.d_eq e]
    refine ac' (check_ac hC2 e ((w : Int) != 1) 50 (pre1 hW) _ fun r ib2 il2 σ2 k1 k2 => ?_)
    have hloc := Stq.tree hC k2
    simp only [go_sem, live_of hloc, objK_of hloc, Try.results60]
    rw [← Nd.d_eq e]
    refine ac' (ownOf_ac hok 0 1 (by omega) (by omega) (own_ac X B ib2 _ (hok.kid 0)) (own_ac X B ib2 _ (hok.kid 1)) _ k1.rd _ _ ?_)
    unfold innerM at hv
    by_cases hz : orM (ownM (den X.L B) (e.kid 0)) (ownM (den X.L B) (e.kid 1)) = 0
    · have bz := beq_t hz
      rw [if_neg (by omega)] at hv
      simp only [go_sem, bz, live_of hloc, objK_of hloc, Try.results60]
      rw [← Nd.d_eq e]
      refine ac' (leastOf_ac hok 0 1 (by omega) (by omega) (least_ac X B ib2 _ (hok.kid 0)) (least_ac X B ib2 _ (hok.kid 1)) _ k1.rd _ _ ?_)
      simp only [go_sem, hv, live_of hloc, objK_of hloc, Try.results60]
      rw [← Nd.d_eq e]
      refine ac' (kids_ac hok 0 2 (by omega) (by omega) v hv8 ih k1 (fun k => hf.kid k) (pre2 hW) _ fun r ib3 il3 σ3 k3 k4 => ?_)
      simp only [go_sem, Try.results60]
      refine ⟨_, _, Weak.refl _ _ _ _, h _ _ _ _ ?_ (Stq.app (k2.trans k4))⟩
      rw [List.append_assoc] at k3; exact k3
    · have bz := beq_f hz
      rw [if_pos (by omega)] at hv
      simp only [go_sem, bz, live_of hloc, objK_of hloc, Try.results60]
      rw [hv, ← Nd.d_eq e]
      refine ac' (kids_ac hok 0 2 (by omega) (by omega) v hv8 ih k1 (fun k => hf.kid k) (pre2 hW) _ fun r ib3 il3 σ3 k3 k4 => ?_)
      simp only [go_sem, Try.results60]
      refine ⟨_, _, Weak.refl _ _ _ _, h _ _ _ _ ?_ (Stq.app (k2.trans k4))⟩
      rw [List.append_assoc] at k3; exact k3
  have d2 := beq_f o2
  rw [if_neg o2] at hW h
  by_cases o3 : opM e.name = 3
  · have d3 := beq_t o3
    rw [if_pos o3] at hW h
    rw [← kids_two (fun k => exprM X.C k B (w : Int))] at hW h
    simp only [go_sem, d1, d2, d3, Try.results60]
    rw [← Nd.d_eq e]
    refine ac' (kids_ac hok 0 2 (by omega) (by omega) w hw ih hC2 (fun k => hf.kid k) hW _ fun r ib3 il3 σ3 k3 k4 => ?_)
    simp only [go_sem, Try.results60]
    exact ⟨_, _, Weak.refl _ _ _ _, h _ _ _ _ k3 (Stq.app k4)⟩
  have d3 := beq_f o3
  rw [if_neg o3] at hW h
  simp only [go_sem, d1, d2, d3, Try.results60]
  refine aw_plan (.tk 7 0 <| .done) (by kernel_rfl) ?_
  simp only [go_sem, live_old hc, objK_old hc, Try.results60]
  refine ac' (report_ac hC2 44 e.pos hW _ fun r il' σ' k1 k2 => ?_)
  exact ⟨_, _, Weak.refl _ _ _ _, h _ _ _ _ k1 (Stq.app k2)⟩
end
end Go.Proofs.Ytfoblkeefpaceaa
end PartK7

section PartK8
/- The checker: expressions. -/
set_option linter.unusedSimpArgs false
set_option linter.unusedVariables false
set_option maxRecDepth 100000
namespace Go.Proofs.Ytfoblkeefpaceaa
open Go Go.Ab

section
variable {X : Kx} {G : Glob} {W : List Dg} {σ0 : St}
theorem bcs_app (B : Bnd) (b : Str × Int) : bcs (B ++ [b]) = bcs B ++ [.d (.str b.1), di b.2] := by simp [bcs]
theorem Weak.shortAt {G : Glob} {n0 : Nat} {fr : Fr} {σ : St} (id n : Nat) {cs : List A} (h : σ[id]? = some (some (.cells cs))) : Weak G n0 fr σ fr (σ.set id (some (.cells (cs.take n)))) := by
  have := Weak.short (G := G) (n0 := n0) (fr := fr) (σ := []) (l := σ) id n (cs := cs) h
  simpa using this
/-- A tree of no kind of expressions. -/
theorem expr_other {e : Nd} (hk : ¬ (1 ≤ e.kind ∧ e.kind ≤ 8)) : ExprAt X G W σ0 e := by
  intro B ds ib il σ w hw hC hf hW R h
  have hc := hC.rd.c
  unfold chk at hc
  have hC2 := hC.app [ncs e]
  rw [expr_eq] at hW h
  rw [if_neg (by omega), if_neg (by omega), if_neg (by omega), if_neg (by omega), if_neg (by omega), if_neg (by omega), if_neg (by omega)] at hW h
  rw [Nd.d_eq]
  refine ac_enterC' [27] mixed Try.func36 rfl Try.ntmps36 (by simp only [go_sem]) fun hbd => ?_
  simp only [List.length_cons, List.length_nil, Nat.reduceAdd, Nat.reduceSub, List.replicate_succ, List.replicate_zero, List.cons_append, List.nil_append]
  have c1 : (e.kind == 1) = false := beq_f (by omega)
  have c2 : (e.kind == 2) = false := beq_f (by omega)
  have c3 : (e.kind == 3) = false := beq_f (by omega)
  have c4 : (e.kind == 4) = false := beq_f (by omega)
  have c5 : (e.kind == 5) = false := beq_f (by omega)
  have c6 : (e.kind == 6) = false := beq_f (by omega)
  have c7 : (e.kind == 7) = false := beq_f (by omega)
  have c8 : (e.kind == 8) = false := beq_f (by omega)
  simp only [go_sem, c1, c2, c3, c4, c5, c6, c7, c8, Try.results36]
  refine aw_plan (.tk 7 0 <| .done) (by kernel_rfl) ?_
  simp only [go_sem, live_old hc, objK_old hc, Try.results36]
  refine ac' (report_ac hC2 44 e.pos hW _ fun r il' σ' k1 k2 => ?_)
  exact ⟨_, _, Weak.refl _ _ _ _, h _ _ _ _ k1 (Stq.app k2)⟩
/-- A bound variable more. -/
theorem Ck.bind {B : Bnd} {ds : List Dg} {ib il : Nat} {σ : St} (hC : Ck X G W σ0 B ds ib il σ) (b : Str × Int) (hb : I64 b.2) (hB : B.length + 1 ≤ 10000) (x : Option Ob) :
    Ck X G W σ0 (B ++ [b]) ds (σ.length + 1) il ((σ.set ib none).set X.ic (some (.cells (chk X.S X.m X.p (.rs (σ.length + 1) 2 0 (B.length + 1) (some 110)) X.old X.ig X.st))) ++ [x, some (.cells (bcs B ++ [.d (.str b.1), di b.2]))]) ∧
    Stq X ib il σ (σ.length + 1) il ((σ.set ib none).set X.ic (some (.cells (chk X.S X.m X.p (.rs (σ.length + 1) 2 0 (B.length + 1) (some 110)) X.old X.ig X.st))) ++ [x, some (.cells (bcs B ++ [.d (.str b.1), di b.2]))]) := by
  obtain ⟨hrd, hg, hl, hlt, ncg, nbc, nbg, nlc, nlg, nbl, lowb, lowl, keep, pan⟩ := hC
  have t1 := lt_of_some hrd.c; have t2 := lt_of_some hg; have t3 := lt_of_some hrd.b; have t4 := lt_of_some hl
  have hkl := keep.1
  have hot : ∀ id, id < σ.length → id ≠ X.ic → id ≠ ib → ((σ.set ib none).set X.ic (some (.cells (chk X.S X.m X.p (.rs (σ.length + 1) 2 0 (B.length + 1) (some 110)) X.old X.ig X.st))) ++ [x, some (.cells (bcs B ++ [.d (.str b.1), di b.2]))])[id]? = σ[id]? := fun id h1 h2 h3 => by
    rw [List.getElem?_append_left (by simp; omega), set_other (Ne.symm h2), set_other (Ne.symm h3)]
  have hnw : ((σ.set ib none).set X.ic (some (.cells (chk X.S X.m X.p (.rs (σ.length + 1) 2 0 (B.length + 1) (some 110)) X.old X.ig X.st))) ++ [x, some (.cells (bcs B ++ [.d (.str b.1), di b.2]))])[σ.length + 1]? = some (some (.cells (bcs (B ++ [b])))) := by
    rw [List.getElem?_append_right (by simp), List.length_set, List.length_set, Nat.add_sub_cancel_left, bcs_app]; rfl
  have hcc : ((σ.set ib none).set X.ic (some (.cells (chk X.S X.m X.p (.rs (σ.length + 1) 2 0 (B.length + 1) (some 110)) X.old X.ig X.st))) ++ [x, some (.cells (bcs B ++ [.d (.str b.1), di b.2]))])[X.ic]? = some (some (.cells (chk X.S X.m X.p (.rs (σ.length + 1) 2 0 (B.length + 1) (some 110)) X.old X.ig X.st))) := by
    rw [List.getElem?_append_left (by simp; omega)]
    exact set_same (x := some (.cells (chk X.S X.m X.p (.rs ib 2 0 B.length (some 110)) X.old X.ig X.st))) (by rw [set_other nbc]; exact hrd.c)
  refine ⟨⟨⟨hrd.ok, hrd.us, hrd.pl, by rw [hcc]; simp, hnw, by rw [List.length_append]; exact hB, fun y hy => ?_⟩, by rw [hot _ t2 ncg.symm nbg.symm]; exact hg, by rw [hot _ t4 nlc nbl.symm]; exact hl, hlt, ncg, by omega, by omega, nlc, nlg, by omega, by omega, lowl, ?_, pan⟩, .inr (by omega), .inl rfl, by simp only [List.length_append, List.length_set]; omega, fun id hid hn => ?_⟩
  · rcases List.mem_append.1 hy with h | h
    · exact hrd.hN y h
    · rw [List.mem_singleton.1 h]; exact hb
  · refine ⟨by simp; omega, fun id hid hn => ?_⟩
    simp only [List.mem_cons, List.not_mem_nil, or_false, not_or] at hn
    rw [hot id (by omega) hn.1 (by omega), keep.2 id hid (by simp only [List.mem_cons, List.not_mem_nil, or_false, not_or]; exact hn)]
  · simp only [List.mem_cons, List.not_mem_nil, or_false, not_or] at hn
    exact hot id hid hn.1 hn.2.2.1
/-- A bound variable less. -/
theorem Ck.unbind {B : Bnd} {b : Str × Int} {ds : List Dg} {ib il : Nat} {σ : St} (hC : Ck X G W σ0 (B ++ [b]) ds ib il σ) :
    Ck X G W σ0 B ds ib il ((σ.set X.ic (some (.cells (chk X.S X.m X.p (.rs ib 2 0 B.length (some 110)) X.old X.ig X.st)))).set ib (some (.cells (bcs B)))) ∧
    Stq X ib il σ ib il ((σ.set X.ic (some (.cells (chk X.S X.m X.p (.rs ib 2 0 B.length (some 110)) X.old X.ig X.st)))).set ib (some (.cells (bcs B)))) := by
  obtain ⟨hrd, hg, hl, hlt, ncg, nbc, nbg, nlc, nlg, nbl, lowb, lowl, keep, pan⟩ := hC
  have t1 := lt_of_some hrd.c; have t2 := lt_of_some hg; have t3 := lt_of_some hrd.b; have t4 := lt_of_some hl
  have hkl := keep.1
  have hB := hrd.hB
  simp only [List.length_append, List.length_cons, List.length_nil] at hB
  have hot : ∀ id, id ≠ X.ic → id ≠ ib → ((σ.set X.ic (some (.cells (chk X.S X.m X.p (.rs ib 2 0 B.length (some 110)) X.old X.ig X.st)))).set ib (some (.cells (bcs B))))[id]? = σ[id]? := fun id h2 h3 => by
    rw [set_other (Ne.symm h3), set_other (Ne.symm h2)]
  have e1 : (σ.set X.ic (some (.cells (chk X.S X.m X.p (.rs ib 2 0 B.length (some 110)) X.old X.ig X.st))))[ib]? = some (some (.cells (bcs (B ++ [b])))) := by rw [set_other nbc.symm]; exact hrd.b
  refine ⟨⟨⟨hrd.ok, hrd.us, hrd.pl, by rw [set_other nbc]; exact set_same hrd.c, set_same e1, by omega, fun y hy => hrd.hN y (List.mem_append_left _ hy)⟩, by rw [hot _ ncg.symm nbg.symm]; exact hg, by rw [hot _ nlc nbl.symm]; exact hl, hlt, ncg, nbc, nbg, nlc, nlg, nbl, lowb, lowl, ?_, pan⟩, .inl rfl, .inl rfl, by simp, fun id hid hn => ?_⟩
  · refine ⟨by simp; omega, fun id hid hn => ?_⟩
    simp only [List.mem_cons, List.not_mem_nil, or_false, not_or] at hn
    rw [hot id hn.1 (by omega), keep.2 id hid (by simp only [List.mem_cons, List.not_mem_nil, or_false, not_or]; exact hn)]
  · simp only [List.mem_cons, List.not_mem_nil, or_false, not_or] at hn
    exact hot id hn.1 hn.2.2.1
/-- One's own objects stay where they lie. -/
theorem Stq.own {B : Bnd} {ds : List Dg} {ib il ib' il' : Nat} {σ l st : St} (hC : Ck X G W σ0 B ds ib il σ) (h : Stq X ib il (σ ++ l) ib' il' st) {i : Nat} {o : Option Ob} (hi : l[i]? = some o) : st[σ.length + i]? = some o := by
  have t1 := lt_of_some hC.rd.c; have t2 := lt_of_some hC.g; have t3 := lt_of_some hC.rd.b; have t4 := lt_of_some hC.l
  have := lt_of_some hi
  obtain ⟨hloc, -, -⟩ := h.at_ (i := σ.length + i) (by simp; omega) (by omega) (by omega) (by omega) (by omega)
  rw [hloc, List.getElem?_append_right (by omega), Nat.add_sub_cancel_left]; exact hi
set_option maxHeartbeats 16000000 in
theorem expr_ac : ∀ e : Nd, e.Ok → ExprAt X G W σ0 e := by
  refine Nd.ind (fun _ => expr_other (by decide)) fun e ih' _ hok => ?_
  by_cases hk : ¬ (1 ≤ e.kind ∧ e.kind ≤ 8)
  · exact expr_other hk
  have ih : ∀ k, ExprAt X G W σ0 (e.kid k) := fun k => ih' k (hok.kid k)
  intro B ds ib il σ w hw hC hf hW R h
  have hc := hC.rd.c
  unfold chk at hc
  have hC2 := hC.app [ncs e]
  rw [expr_eq] at hW h
  rw [Nd.d_eq]
  refine ac_enterC' [27] mixed Try.func36 rfl Try.ntmps36 (by simp only [go_sem]) fun hbd => ?_
  simp only [List.length_cons, List.length_nil, Nat.reduceAdd, Nat.reduceSub, List.replicate_succ, List.replicate_zero, List.cons_append, List.nil_append]
  by_cases k1 : e.kind = 1
  · have c1 := beq_t k1
    rw [if_pos k1] at hW h
    simp only [go_sem, c1, Try.results36]
    refine aw_plan (.take 0 <| .tk 3 2 <| .pure 5 <| .take 1 <| .tk 2 6 <| .done) (by kernel_rfl) ?_
    simp only [go_sem, Try.results36]
    refine exP (db (fitsM e.n w)) ⟨fun σ' => ?_, ?_⟩
    · simp only [go_sem, Try.results36]
      exact ac' (fits_ac e.n w hw _ _ _ ⟨rfl, rfl⟩)
    simp only [go_sem, Try.results36]
    rw [← Nd.d_eq e]
    refine ac' (check_ac hC2 e (!fitsM e.n w) 50 hW _ fun r ib2 il2 σ2 q1 q2 => ?_)
    exact ⟨_, _, Weak.refl _ _ _ _, h _ _ _ _ q1 (Stq.app q2)⟩
  have c1 := beq_f k1
  rw [if_neg k1] at hW h
  by_cases k2 : e.kind = 2
  · have c2 := beq_t k2
    rw [if_pos k2] at hW h
    simp only [go_sem, c1, c2, Try.results36]
    rw [← Nd.d_eq e]
    refine ac' (ref_ac hok ih w hw hC2 hf hW _ fun r ib2 il2 σ2 q1 q2 => ?_)
    exact ⟨_, _, Weak.refl _ _ _ _, h _ _ _ _ q1 (Stq.app q2)⟩
  have c2 := beq_f k2
  rw [if_neg k2] at hW h
  by_cases k3 : e.kind = 3
  · have c3 := beq_t k3
    rw [if_pos k3] at hW h
    have hW1 := pre1 hW
    have hW2 := pre2 hW
    have hfin : ∀ (l : St) (ib2 il2 : Nat) (σ2 : St), Stq X ib il (σ ++ l) ib2 il2 σ2 → Ck X G W σ0 B (ds ++ rep (oldBad X.C.old (den X.C.L B) (e.kid 0)) 44 e.pos) ib2 il2 σ2 → ∀ R' : A → St → Prop, (∀ r σ', (∀ r0, R r0 σ') → R' r σ') → AC Try.prog G 36 [.ref X.ic 0, .d (e.kid 0).d, dn w] σ2 R' := fun l ib2 il2 σ2 hst hCk R' hR' => by
      refine ih 0 B _ _ _ _ w hw hCk (hf.kid 0) hW2 R' fun r ib3 il3 σ3 q1 q2 => hR' _ _ fun r0 => h r0 _ _ _ ?_ (Stq.app (hst.trans q2))
      rw [List.append_assoc] at q1; exact q1
    simp only [go_sem, c1, c2, c3, Try.results36]
    rw [← Nd.d_eq e]
    refine ac' (kid_ac e 0 (by omega) hok.len _ _ _ ?_)
    rw [Nd.d_eq (e.kid 0)]
    by_cases hb : (!X.old || (e.kid 0).kind != 2) = true
    · have hob : oldBad X.C.old (den X.C.L B) (e.kid 0) = true := by
        show (!X.old || (e.kid 0).kind != 2 || _) = true
        rw [hb]; rfl
      rw [hob] at hW1 hfin
      simp only [go_sem, live_old hc, objK_old hc, hb, Try.results36]
      rw [← Nd.d_eq e]
      refine ⟨fun c => by simpa using c, ac' (check_ac (hC.app _) e true 44 hW1 _ fun r ib2 il2 σ2 q1 q2 => ?_)⟩
      have hloc := Stq.own hC q2 (i := 1) rfl
      simp only [go_sem, live_of hloc, objK_of hloc, Try.results36]
      rw [← Nd.d_eq (e.kid 0)]
      refine ac' (hfin _ _ _ _ q2 q1 _ fun r σ' hR => ?_)
      exact ⟨_, _, Weak.refl _ _ _ _, hR _⟩
    · have hb' : (!X.old || (e.kid 0).kind != 2) = false := by simpa only [Bool.not_eq_true] using hb
      have hob : oldBad X.C.old (den X.C.L B) (e.kid 0) = ((den X.L B (e.kid 0).name).kind == 4 || ((den X.L B (e.kid 0).name).kind == 2 || (den X.L B (e.kid 0).name).kind == 3)) := by
        show (!X.old || (e.kid 0).kind != 2 || _) = _
        rw [hb', Bool.false_or]
        show (match den X.L B (e.kid 0).name with | .bound _ => true | .var k _ => k == 2 || k == 3 | .none => false) = _
        cases hd : den X.L B (e.kid 0).name with
        | none => rfl
        | bound n => rfl
        | var k v => rcases den_kind hd with rfl | rfl | rfl <;> rfl
      rw [hob] at hW1 hfin
      simp only [go_sem, live_old hc, objK_old hc, hb', Try.results36]
      refine ⟨fun c => by simpa using c, ac' ((hC.rd.app _).den (e.kid 0).name (hok.kid 0).nm _ _ ?_)⟩
      generalize den X.L B (e.kid 0).name = m at hW1 hfin
      simp only [mn_eq, go_sem, Try.results36]
      refine ex' (.bool (m.kind == 2 || m.kind == 3)) ⟨fun q => ?_, ?_⟩
      · simp only [go_sem, Try.results36]
        rw [← mn_eq]
        exact ⟨by assumption, ac' (priv_ac m _ _ _ ⟨rfl, rfl⟩)⟩
      simp only [go_sem, Try.results36]
      rw [← Nd.d_eq e]
      refine ac' (check_ac (hC.app _) e _ 44 hW1 _ fun r ib2 il2 σ2 q1 q2 => ?_)
      have hloc := Stq.own hC q2 (i := 1) rfl
      simp only [go_sem, live_of hloc, objK_of hloc, Try.results36]
      rw [← Nd.d_eq (e.kid 0)]
      refine ac' (hfin _ _ _ _ q2 q1 _ fun r σ' hR => ?_)
      exact ⟨_, _, Weak.refl _ _ _ _, hR _⟩
  have c3 := beq_f k3
  rw [if_neg k3] at hW h
  by_cases k4 : e.kind = 4
  · have c4 := beq_t k4
    rw [if_pos k4, ← kids_one (fun k => exprM X.C k B w)] at hW h
    simp only [go_sem, c1, c2, c3, c4, Try.results36]
    rw [← Nd.d_eq e]
    refine ac' (kids_ac hok 0 1 (by omega) (by omega) w hw ih hC2 (fun k => hf.kid k) hW _ fun r ib3 il3 σ3 q1 q2 => ?_)
    exact ⟨_, _, Weak.refl _ _ _ _, h _ _ _ _ q1 (Stq.app q2)⟩
  have c4 := beq_f k4
  rw [if_neg k4] at hW h
  by_cases k5 : e.kind = 5
  · have c5 := beq_t k5
    rw [if_pos k5] at hW h
    simp only [go_sem, c1, c2, c3, c4, c5, Try.results36]
    rw [← Nd.d_eq e]
    refine ac' (binary_ac hok ih w hw hC2 hf hW _ fun r ib2 il2 σ2 q1 q2 => ?_)
    exact ⟨_, _, Weak.refl _ _ _ _, h _ _ _ _ q1 (Stq.app q2)⟩
  have c5 := beq_f k5
  rw [if_neg k5] at hW h
  by_cases k6 : e.kind = 6
  · have c6 := beq_t k6
    rw [if_pos k6, ← kids_one (fun k => exprM X.C k B 1), ← kids_rest (fun k => exprM X.C k B w)] at hW h
    simp only [go_sem, c1, c2, c3, c4, c5, c6, Try.results36]
    rw [← Nd.d_eq e]
    refine ac' (kids_ac hok 0 1 (by omega) (by omega) 1 (by omega) ih hC2 (fun k => hf.kid k) (pre1 hW) _ fun r ib2 il2 σ2 q1 q2 => ?_)
    have hloc := Stq.tree hC q2
    simp only [go_sem, live_of hloc, objK_of hloc, Try.results36]
    rw [← Nd.d_eq e]
    refine ac' (kids_ac hok 1 3 (by omega) (by omega) w hw ih q1 (fun k => hf.kid k) (pre2 hW) _ fun r ib3 il3 σ3 q3 q4 => ?_)
    rw [List.append_assoc] at q3
    exact ⟨_, _, Weak.refl _ _ _ _, h _ _ _ _ q3 (Stq.app (q2.trans q4))⟩
  have c6 := beq_f k6
  rw [if_neg k6] at hW h
  have k78 : e.kind = 7 ∨ e.kind = 8 := by omega
  rw [if_pos k78] at hW h
  have hfB : B.length + e.nodes ≤ 10000 := hf.resolve_right fun h0 => by rw [h0] at hk; exact hk (by decide)
  have hnd : 1 ≤ e.nodes := by rw [Nd.nodes_eq]; omega
  have hkB : ∀ k, FitB (B ++ [(e.name, e.n)]) (e.kid k) := fun k => by
    rcases kid_nodes (e := e) (i := k) with h1 | h1
    · left; simp; omega
    · exact .inr h1
  have hWa := pre1 hW
  have hWb := pre2 hW
  generalize hm1 : (if (w : Int) ≠ 1 then [(⟨50, e.pos⟩ : Dg)] else rep (decide (e.n < 0) || decide (8 < e.n)) 2 e.pos) = m1 at hW h hWa hWb
  have hc7 : (e.kind == 7) = true ∨ ((e.kind == 7) = false ∧ (e.kind == 8) = true) := by
    rcases k78 with k | k
    · exact .inl (beq_t k)
    · exact .inr ⟨beq_f (by omega), beq_t k⟩
  rcases hc7 with c7 | ⟨c7, c8⟩
  · simp only [go_sem, c1, c2, c3, c4, c5, c6, c7, Try.results36]
    refine aw_cut (fun fr st => ∃ ib' il', Ck X G W σ0 B (ds ++ m1) ib' il' st ∧ Stq X ib il (σ ++ [ncs e]) ib' il' st ∧ fr = [.ref X.ic 0, .any, .any, .any, .ref σ.length 0, .any, .any, .any, .any, .any, .any, .any, .any, .any, .any, .any, .any, .any, .any, .any, .any, .any, .any, .any, .any, .any, .any, .any, .any, .any, .any, .any, .any, .any, .any, .any, .any, .any, .any, .any, .any, .any, .any, .any, .any, .any, .any, .any, .any, .any, .any, .any, .any, .any, .any, .any, .any, .any, .any, .any, .any, .any, .any, .any, .any, .any, .any, .any, .any, .any, .any, .any, .any, .any, .any, .any, .any, .any, .any, .any, .any, .any, .any, .any, .any, .any, .any, .any, .any, .any, .any, .any, .any, .any, .any, .any, .any, .any, .any, .any, .any, .any, .any, .any, .any, .any, .any, .any, .any, .any, .any, .any, .any, .any, .any, .any, .any, .any, .any, .any, .any, .any, .any, .any, .any, .any, .any, .any, .any, .any, .any, .any, .any, .any, .any, .any, .any, .any, .any, .any, .any, .any, .any, .any]) ?_ ?_
    · by_cases hw1 : (w : Int) = 1
      · have d1 : ((w : Int) != 1) = false := by simpa using hw1
        rw [if_neg (by omega)] at hm1
        subst hm1
        simp only [go_sem, d1, Try.results36]
        rw [← Nd.d_eq e]
        refine ac' (check_ac hC2 e _ 2 hWa _ fun r il' il2 σ' q1 q2 => ?_)
        simp only [go_sem, Try.results36]
        exact Wk.mask [0, 4] ⟨_, _, q1, q2, rfl⟩
      · have d1 : ((w : Int) != 1) = true := by simpa using hw1
        rw [if_pos hw1] at hm1
        subst hm1
        simp only [go_sem, d1, Try.results36]
        refine aw_plan (.tk 7 0 <| .done) (by kernel_rfl) ?_
        simp only [go_sem, live_old hc, objK_old hc, Try.results36]
        refine ac' (report_ac hC2 50 e.pos hWa _ fun r il' σ' q1 q2 => ?_)
        simp only [go_sem, Try.results36]
        exact Wk.mask [0, 4] ⟨_, _, q1, q2, rfl⟩
    · rintro fr st ⟨ib', il', hCk, hst, rfl⟩
      have hloc := Stq.tree hC hst
      have hc' := hCk.rd.c
      have hcu := hc'
      unfold chk at hcu
      have hbb := hCk.rd.b
      have u1 := lt_of_some hc'; have u2 := lt_of_some hbb; have u3 := lt_of_some hloc
      have h3 : (st.set ib' none)[X.ic]? = some (some (.cells (chk X.S X.m X.p (.rs ib' 2 0 B.length (some 110)) X.old X.ig X.st))) := by rw [set_other hCk.nbc]; exact hc'
      have u4 : X.ic < (st.set ib' none).length := by rw [List.length_set]; exact u1
      obtain ⟨z1, z2⟩ := Ck.bind hCk (e.name, e.n) hok.num (by omega) (some (.cells [.d (.str e.name), di e.n]))
      obtain ⟨hla, hlb, -⟩ := hst.at_ (i := σ.length) (by simp) (by have := lt_of_some hC.rd.c; omega) (by have := lt_of_some hC.g; omega) (by have := lt_of_some hC.rd.b; omega) (by have := lt_of_some hC.l; omega)
      have h5 : ((st.set ib' none).set X.ic (some (.cells (chk X.S X.m X.p (.rs (st.length + 1) 2 0 (B.length + 1) (some 110)) X.old X.ig X.st))))[σ.length]? = some (ncs e) := by
        rw [set_other (by have := lt_of_some hC.rd.c; omega), set_other (Ne.symm hlb)]; exact hloc
      have fl := bcs_len B
      have hB := hCk.rd.hB
      unfold chk at h3 h5
      simp only [go_sem, Try.results36]
      refine aw_plan (.tk 15 0 <| .done) (by kernel_rfl) ?_
      simp only [go_sem, live_of hcu, objK_of hcu, live_of hloc, objK_of hloc, live_old hbb, objK_old hbb, set_old u2, live_old h3, objK_old h3, set_old u4, live_old h5, objK_old h5, List.length_set, fl, Try.results36]
      unfold chk at z1 z2
      rw [← kids_one (fun k => exprM X.C k (B ++ [(e.name, e.n)]) 1)] at hWb h
      rw [← Nd.d_eq e]
      refine ⟨⟨by simp only [maxLen]; omega, by omega⟩, live_of (o := .cells (bcs B ++ [.d (.str e.name), di e.n])) (by rw [List.getElem?_append_right (by simp), List.length_set, Nat.add_sub_cancel_left]; rfl), ac' (kids_ac hok 0 1 (by omega) (by omega) 1 (by omega) ih z1 hkB hWb _ fun r ib3 il3 σ3 q3 q4 => ?_)⟩
      have hc3 := q3.rd.c
      have hb3 := q3.rd.b
      have hc3u := hc3
      unfold chk at hc3u
      obtain ⟨z3, z4⟩ := Ck.unbind q3
      have hlB : (B ++ [(e.name, e.n)]).length = B.length + 1 := by simp
      rw [hlB] at hc3u
      have w1 : IntKind.i64.wrap (((B.length + 1 : Nat) : Int) - 1) = (B.length : Int) := by rw [wrap64_id _ (by omega) (by omega)]; omega
      simp only [go_sem, Try.results36]
      refine aw_plan (.tk 15 0 <| .done) (by kernel_rfl) ?_
      simp only [go_sem, live_of hc3u, objK_of hc3u, live_of hb3, objK_of hb3, w1, Try.results36]
      have hfin : (bcs (B ++ [(e.name, e.n)])).take (B.length * 2) = bcs B := by
        rw [bcs_app, List.take_append_of_le_length (by omega), List.take_of_length_le (by omega)]
      have hsh := Weak.shortAt (G := G) (n0 := σ.length) (fr := [A.tup []]) (σ := σ3.set X.ic (some (.cells (chk X.S X.m X.p (.rs ib3 2 0 B.length (some 110)) X.old X.ig X.st)))) ib3 (B.length * 2) (cs := bcs (B ++ [(e.name, e.n)])) (by rw [set_other (Ne.symm q3.nbc)]; exact hb3)
      rw [hfin] at hsh
      rw [List.append_assoc] at z3
      refine ⟨⟨by omega, by omega⟩, _, _, hsh, h _ _ _ _ z3 (Stq.app (((hst.trans z2).trans q4).trans z4))⟩
  · simp only [go_sem, c1, c2, c3, c4, c5, c6, c7, c8, Try.results36]
    refine aw_cut (fun fr st => ∃ ib' il', Ck X G W σ0 B (ds ++ m1) ib' il' st ∧ Stq X ib il (σ ++ [ncs e]) ib' il' st ∧ fr = [.ref X.ic 0, .any, .any, .any, .ref σ.length 0, .any, .any, .any, .any, .any, .any, .any, .any, .any, .any, .any, .any, .any, .any, .any, .any, .any, .any, .any, .any, .any, .any, .any, .any, .any, .any, .any, .any, .any, .any, .any, .any, .any, .any, .any, .any, .any, .any, .any, .any, .any, .any, .any, .any, .any, .any, .any, .any, .any, .any, .any, .any, .any, .any, .any, .any, .any, .any, .any, .any, .any, .any, .any, .any, .any, .any, .any, .any, .any, .any, .any, .any, .any, .any, .any, .any, .any, .any, .any, .any, .any, .any, .any, .any, .any, .any, .any, .any, .any, .any, .any, .any, .any, .any, .any, .any, .any, .any, .any, .any, .any, .any, .any, .any, .any, .any, .any, .any, .any, .any, .any, .any, .any, .any, .any, .any, .any, .any, .any, .any, .any, .any, .any, .any, .any, .any, .any, .any, .any, .any, .any, .any, .any, .any, .any, .any, .any, .any, .any]) ?_ ?_
    · by_cases hw1 : (w : Int) = 1
      · have d1 : ((w : Int) != 1) = false := by simpa using hw1
        rw [if_neg (by omega)] at hm1
        subst hm1
        simp only [go_sem, d1, Try.results36]
        rw [← Nd.d_eq e]
        refine ac' (check_ac hC2 e _ 2 hWa _ fun r il' il2 σ' q1 q2 => ?_)
        simp only [go_sem, Try.results36]
        exact Wk.mask [0, 4] ⟨_, _, q1, q2, rfl⟩
      · have d1 : ((w : Int) != 1) = true := by simpa using hw1
        rw [if_pos hw1] at hm1
        subst hm1
        simp only [go_sem, d1, Try.results36]
        refine aw_plan (.tk 7 0 <| .done) (by kernel_rfl) ?_
        simp only [go_sem, live_old hc, objK_old hc, Try.results36]
        refine ac' (report_ac hC2 50 e.pos hWa _ fun r il' σ' q1 q2 => ?_)
        simp only [go_sem, Try.results36]
        exact Wk.mask [0, 4] ⟨_, _, q1, q2, rfl⟩
    · rintro fr st ⟨ib', il', hCk, hst, rfl⟩
      have hloc := Stq.tree hC hst
      have hc' := hCk.rd.c
      have hcu := hc'
      unfold chk at hcu
      have hbb := hCk.rd.b
      have u1 := lt_of_some hc'; have u2 := lt_of_some hbb; have u3 := lt_of_some hloc
      have h3 : (st.set ib' none)[X.ic]? = some (some (.cells (chk X.S X.m X.p (.rs ib' 2 0 B.length (some 110)) X.old X.ig X.st))) := by rw [set_other hCk.nbc]; exact hc'
      have u4 : X.ic < (st.set ib' none).length := by rw [List.length_set]; exact u1
      obtain ⟨z1, z2⟩ := Ck.bind hCk (e.name, e.n) hok.num (by omega) (some (.cells [.d (.str e.name), di e.n]))
      obtain ⟨hla, hlb, -⟩ := hst.at_ (i := σ.length) (by simp) (by have := lt_of_some hC.rd.c; omega) (by have := lt_of_some hC.g; omega) (by have := lt_of_some hC.rd.b; omega) (by have := lt_of_some hC.l; omega)
      have h5 : ((st.set ib' none).set X.ic (some (.cells (chk X.S X.m X.p (.rs (st.length + 1) 2 0 (B.length + 1) (some 110)) X.old X.ig X.st))))[σ.length]? = some (ncs e) := by
        rw [set_other (by have := lt_of_some hC.rd.c; omega), set_other (Ne.symm hlb)]; exact hloc
      have fl := bcs_len B
      have hB := hCk.rd.hB
      unfold chk at h3 h5
      simp only [go_sem, Try.results36]
      refine aw_plan (.tk 15 0 <| .done) (by kernel_rfl) ?_
      simp only [go_sem, live_of hcu, objK_of hcu, live_of hloc, objK_of hloc, live_old hbb, objK_old hbb, set_old u2, live_old h3, objK_old h3, set_old u4, live_old h5, objK_old h5, List.length_set, fl, Try.results36]
      unfold chk at z1 z2
      rw [← kids_one (fun k => exprM X.C k (B ++ [(e.name, e.n)]) 1)] at hWb h
      rw [← Nd.d_eq e]
      refine ⟨⟨by simp only [maxLen]; omega, by omega⟩, live_of (o := .cells (bcs B ++ [.d (.str e.name), di e.n])) (by rw [List.getElem?_append_right (by simp), List.length_set, Nat.add_sub_cancel_left]; rfl), ac' (kids_ac hok 0 1 (by omega) (by omega) 1 (by omega) ih z1 hkB hWb _ fun r ib3 il3 σ3 q3 q4 => ?_)⟩
      have hc3 := q3.rd.c
      have hb3 := q3.rd.b
      have hc3u := hc3
      unfold chk at hc3u
      obtain ⟨z3, z4⟩ := Ck.unbind q3
      have hlB : (B ++ [(e.name, e.n)]).length = B.length + 1 := by simp
      rw [hlB] at hc3u
      have w1 : IntKind.i64.wrap (((B.length + 1 : Nat) : Int) - 1) = (B.length : Int) := by rw [wrap64_id _ (by omega) (by omega)]; omega
      simp only [go_sem, Try.results36]
      refine aw_plan (.tk 15 0 <| .done) (by kernel_rfl) ?_
      simp only [go_sem, live_of hc3u, objK_of hc3u, live_of hb3, objK_of hb3, w1, Try.results36]
      have hfin : (bcs (B ++ [(e.name, e.n)])).take (B.length * 2) = bcs B := by
        rw [bcs_app, List.take_append_of_le_length (by omega), List.take_of_length_le (by omega)]
      have hsh := Weak.shortAt (G := G) (n0 := σ.length) (fr := [A.tup []]) (σ := σ3.set X.ic (some (.cells (chk X.S X.m X.p (.rs ib3 2 0 B.length (some 110)) X.old X.ig X.st)))) ib3 (B.length * 2) (cs := bcs (B ++ [(e.name, e.n)])) (by rw [set_other (Ne.symm q3.nbc)]; exact hb3)
      rw [hfin] at hsh
      rw [List.append_assoc] at z3
      refine ⟨⟨by omega, by omega⟩, _, _, hsh, h _ _ _ _ z3 (Stq.app (((hst.trans z2).trans q4).trans z4))⟩
end
end Go.Proofs.Ytfoblkeefpaceaa
end PartK8

section PartK9
/- The checks of a whole: reports collected, the panic caught. -/
set_option linter.unusedSimpArgs false
set_option linter.unusedVariables false
set_option maxRecDepth 100000
namespace Go.Proofs.Ytfoblkeefpaceaa
open Go Go.Ab

theorem awOpsS_asg {P : Program} {G : Glob} {σ : St} {fr : Fr} (rv : A) (ops : Array Oper) (K : Fr → Prop) (dst : Option Tmp) (x : Operand) (ty : TypeId) (pos : String) (after : Array Edge) (rest : List Oper) :
    awOpsS P G σ rv ops (⟨dst, .assign x, ty, pos, after, none⟩ :: rest) K fr = awOpsS P G σ rv ops rest K (put fr dst (ev G fr x)) := by
  simp [awOpsS, isRecO, rd]
theorem caught_ac {rv : Option A} (hrv : rv = none ∨ rv = some fullA) (σ : St) (G : Glob) (R : St → Prop) (h : ∀ l, R (σ ++ l)) : AD Try.prog G 49 [] rv σ R := by
  refine ad_rec mixed (tx := ⟨false, [], true⟩) Try.func49 rfl Try.ntmps49 (by simp only [go_sem]) rfl fun hbd => ?_
  simp only [List.length_cons, List.length_nil, Nat.reduceAdd, Nat.reduceSub, List.replicate_succ, List.replicate_zero, List.cons_append, List.nil_append]
  refine awS_at rfl ?_
  rcases hrv with rfl | rfl
  · simp only [Option.getD_none, awOpsS_asg, go_sem, Try.results49]
    have := h []
    rw [List.append_nil] at this
    exact ⟨_, _, Weak.refl _ _ _ _, this⟩
  · simp only [Option.getD_some, awOpsS_asg, go_sem, Try.results49]
    exact ⟨_, _, Weak.refl _ _ _ _, h _⟩
theorem ret_pre {G : Glob} {σ τ : St} {x : A} {R : A → St → Prop} (hbd : Bd σ.length σ) (hx : x.bd σ.length = true) (hl : σ.length ≤ τ.length) (hg : ∀ id, id < σ.length → τ[id]? = σ[id]?) (h : R x σ) : ∃ r σ', Weak G σ.length [x] τ [r] σ' ∧ R r σ' := by
  have e : τ = σ ++ τ.drop σ.length := by
    apply List.ext_getElem?
    intro i
    rcases Nat.lt_or_ge i σ.length with hi | hi
    · rw [List.getElem?_append_left hi, hg i hi]
    · rw [List.getElem?_append_right hi, List.getElem?_drop]; congr 1; omega
  rw [e]
  exact ret_bd hbd hx h
theorem dcs_flat (l : List Dg) : dcs l = flat (l.map dgD) := by
  induction l with
  | nil => rfl
  | cons a r ih => simp only [dcs, List.flatMap_cons, List.map_cons, flat_cons, dgD, D.cells] at ih ⊢; rw [ih]; rfl
/-- Reports are handed back as data; what is behind the caller's objects is left. -/
theorem ret_dgs {G : Glob} {σ τ : St} {l : List Dg} {il : Nat} {R : A → St → Prop} (hbd : Bd σ.length σ) (hil : τ[il]? = some (some (.cells (dcs l)))) (hlow : σ.length ≤ il) (hl : σ.length ≤ τ.length) (hg : ∀ id, id < σ.length → τ[id]? = σ[id]?) (h : R (.d (dgsD l)) σ) : ∃ r σ', Weak G σ.length [.rs il 2 0 l.length (some 75)] τ [r] σ' ∧ R r σ' := by
  have hf := Weak.freeze (G := G) (n0 := σ.length) (fr := [.rs il 2 0 l.length (some 75)]) (σ := τ) il 2 0 (l.map dgD) hil (by
    rw [dcs_flat]
    refine lies_of fun x hx => ?_
    obtain ⟨d, -, rfl⟩ := List.mem_map.1 hx
    refine ⟨rfl, fun y hy => ?_⟩
    simp only [dgD, D.cells, List.mem_cons, List.not_mem_nil, or_false] at hy
    rcases hy with rfl | rfl <;> rfl)
  obtain ⟨r, σ', h1, h2⟩ := ret_pre (G := G) (σ := σ) (τ := τ.set il none) (x := .d (dgsD l)) hbd rfl (by simpa using hl) (fun id hid => by rw [set_other (by omega)]; exact hg id hid) h
  refine ⟨r, σ', ?_, h2⟩
  have e : frzL il 2 0 (l.map dgD) [.rs il 2 0 l.length (some 75)] = [.d (dgsD l)] := by
    simp [frzL, A.frz, dgsD]
  rw [e] at hf
  exact hf.trans h1
theorem Wk.via {G : Glob} {n0 : Nat} {fr fr' : Fr} {s s' : St} {I : Fr → St → Prop} (h : Weak G n0 fr s fr' s') (k : Wk G n0 I fr' s') : Wk G n0 I fr s := by
  obtain ⟨f, t, h1, h2⟩ := k
  exact ⟨f, t, h.trans h1, h2⟩
/-- The store at the beginning of a check. -/
def sto (S : Sy) (σ : St) : St := σ ++ [some (.cells [.d (.sl 22 (S.mods.map moD)), .d (vrsD S.vars), .d (.sl 12 (S.locks.map lkD)), .d (.sl 16 (S.procs.map prD)), .d (.sl 5 (S.threads.map thD))]), some (.cells [.rs (σ.length + 3) 2 0 0 (some 75)]),
  some (.cells (chk S 0 (-1) (.rs (σ.length + 4) 2 0 0 (some 110)) false (σ.length + 1) (.d .nilm))), some (.cells []), some (.cells [])]
set_option maxHeartbeats 8000000 in
theorem collect_ac (S : Sy) (f : FuncId) (caps : List A) (hbc : ∀ n, bdL n caps = true → True) (W : List Dg) (σ σt : St) (hl : σt.length = σ.length) (hbt : Bd σt.length σt) (G : Glob)
    (hclo : ∀ (G' : Glob), G'.g = G.g → (20 ≤ W.length → ∀ s il', Keeps [] σt s → s[σ.length + 1]? = some (some (.cells [.rs il' 2 0 20 (some 75)])) → s[il']? = some (some (.cells (dcs (W.take 20)))) → σ.length ≤ il' → G'.pan fullA s) →
      ∀ R' : A → St → Prop, (∀ r s il', W.length < 20 → Keeps [] σt s → s[σ.length + 1]? = some (some (.cells [.rs il' 2 0 W.length (some 75)])) → s[il']? = some (some (.cells (dcs W))) → σ.length ≤ il' → R' r s) → AC Try.prog G' f (.ref (σ.length + 2) 0 :: caps) (sto S σ) R')
    (R : A → St → Prop) (h : R (.d (dgsD (W.take 20))) σt) : AC Try.prog G 33 [.d (syD S), .fn (.func f) [] caps] σ R := by
  have hsy : syD S = .agg [.sl 22 (S.mods.map moD), vrsD S.vars, .sl 12 (S.locks.map lkD), .sl 16 (S.procs.map prD), .sl 5 (S.threads.map thD)] := rfl
  rw [hsy]
  refine ac_enterD mixed (fun a s => a = fullA ∧ 20 ≤ W.length ∧ ∃ il', Keeps [] σt s ∧ s[σ.length + 1]? = some (some (.cells [.rs il' 2 0 20 (some 75)])) ∧ s[il']? = some (some (.cells (dcs (W.take 20)))) ∧ σ.length ≤ il') (tx := ⟨false, [4], true⟩) Try.func33 rfl Try.ntmps33 (by simp only [go_sem]) rfl rfl fun hbd => ?_
  simp only [List.length_cons, List.length_nil, Nat.reduceAdd, Nat.reduceSub, List.replicate_succ, List.replicate_zero, List.cons_append, List.nil_append]
  refine awD_pre rfl ?_
  simp only [go_sem]
  refine awD_at rfl ?_
  simp only [go_sem, Try.results33]
  refine ⟨?_, ?_⟩
  · rintro a s ⟨rfl, hW, il', hk, hg, hl', hlow⟩
    refine caught_ac (.inr rfl) s _ _ fun l => ?_
    have hk1 := hk.1
    simp only [go_sem, live_old hg, objK_old hg, List.getD_cons_zero, List.length_cons, List.length_nil]
    have hW20 : (W.take 20).length = 20 := by simp; omega
    have := ret_dgs (G := G) (σ := σt) (τ := s ++ l) (l := W.take 20) (R := R) hbt (by rw [List.getElem?_append_left (lt_of_some hl')]; exact hl') (by omega) (by simp; omega) (fun id hid => by rw [List.getElem?_append_left (by omega)]; exact hk.2 id hid (by simp)) h
    rw [hW20, hl] at this
    exact this
  · refine aw_cut (fun fr st => fr = [.any, .fn (.func f) [] caps, .any, .any, .ref (σ.length + 1) 0, .ref (σ.length + 2) 0, .any, .any, .any, .any, .any, .any, .any, .any, .any, .any, .any] ∧ st = sto S σ) ?_ ?_
    · simp only [go_sem, Try.results33]
      refine Wk.via (Weak.emptyIn (σ := σ) 1 0 2 (some 75) rfl rfl) ?_
      refine Wk.via (Weak.emptyIn (σ := σ) 2 7 2 (some 110) rfl rfl) ?_
      exact Wk.mask [1, 4, 5] ⟨rfl, rfl⟩
    · rintro fr st ⟨rfl, rfl⟩
      simp only [go_sem, Try.results33]
      refine ac' (hclo ⟨G.g, fun a s => a = fullA ∧ 20 ≤ W.length ∧ ∃ il', Keeps [] σt s ∧ s[σ.length + 1]? = some (some (.cells [.rs il' 2 0 20 (some 75)])) ∧ s[il']? = some (some (.cells (dcs (W.take 20)))) ∧ σ.length ≤ il'⟩ rfl (fun hW s il' k1 k2 k3 k4 => ⟨rfl, hW, il', k1, k2, k3, k4⟩) _ fun r s il' hW k1 k2 k3 k4 => ?_)
      have hk1 := k1.1
      have hWt : W.take 20 = W := List.take_of_length_le (by omega)
      rw [hWt] at h
      have e1 : (s.set (σ.length + 1) (some (.cells [.rs il' 2 0 W.length (some 75)])))[σ.length + 1]? = some (some (.cells [.rs il' 2 0 W.length (some 75)])) := set_same k2
      simp only [go_sem, live_of k2, objK_of k2, Try.results33]
      refine ⟨live_of k3, ?_⟩
      refine caught_ac (.inl rfl) _ _ _ fun l => ?_
      simp only [go_sem, live_old e1, objK_old e1, List.getD_cons_zero, List.length_cons, List.length_nil, Try.results33]
      have k5 := lt_of_some k2
      have := ret_dgs (G := G) (σ := σt) (τ := s.set (σ.length + 1) (some (.cells [.rs il' 2 0 W.length (some 75)])) ++ l) (il := il') (l := W) (R := R) hbt (by
        rw [List.getElem?_append_left (by simp; exact lt_of_some k3), set_other (fun h0 => by rw [h0] at k2; rw [k2] at k3; cases W <;> simp [dcs] at k3)]; exact k3) (by omega) (by simp; omega) (fun id hid => by rw [List.getElem?_append_left (by simp; omega), set_other (by omega)]; exact k1.2 id hid (by simp)) h
      rw [hl] at this
      exact this
end Go.Proofs.Ytfoblkeefpaceaa
end PartK9

section PartK10
/- The width of an expression, and its reports. -/
set_option linter.unusedSimpArgs false
set_option linter.unusedVariables false
set_option maxRecDepth 100000
namespace Go.Proofs.Ytfoblkeefpaceaa
open Go Go.Ab

abbrev scs (S : Sy) : Option Ob := some (.cells [.d (.sl 22 (S.mods.map moD)), .d (vrsD S.vars), .d (.sl 12 (S.locks.map lkD)), .d (.sl 16 (S.procs.map prD)), .d (.sl 5 (S.threads.map thD))])
/-- The objects of Width: symbols, module, procedure, expression, requirement, width. -/
def wob (S : Sy) (m p : Int) (e : Nd) (want w : Int) : St := [scs S, some (.cells [di m]), some (.cells [di p]), ncs e, some (.cells [di want]), some (.cells [di w])]
def wst (S : Sy) (m p : Int) (e : Nd) (want w : Int) (σ : St) (m' p' : Int) (old : Bool) : St :=
  σ ++ [scs S, some (.cells [di m]), some (.cells [di p]), ncs e, some (.cells [di want]), some (.cells [di w]), scs S, some (.cells [.rs (σ.length + 9) 2 0 0 (some 75)]), some (.cells (chk S m' p' (.rs (σ.length + 10) 2 0 0 (some 110)) old (σ.length + 7) (.d .nilm))), some (.cells []), some (.cells [])]
theorem sto_eq (S : Sy) (m p : Int) (e : Nd) (want w : Int) (σ : St) : sto S (σ ++ wob S m p e want w) = wst S m p e want w σ 0 (-1) false := by
  simp only [sto, wob, wst, List.append_assoc, List.length_append, List.length_cons, List.length_nil, List.cons_append, List.nil_append]
def Kw (S : Sy) (m p : Int) (σ : St) : Kx := ⟨S, m, p, decide (p < 0), σ.length + 7, σ.length + 8, .d .nilm⟩
theorem wst_at {S : Sy} {m p : Int} {e : Nd} {want w : Int} {σ : St} {m' p' : Int} {old : Bool} (i : Nat) {o : Option Ob}
    (h : [scs S, some (.cells [di m]), some (.cells [di p]), ncs e, some (.cells [di want]), some (.cells [di w]), scs S, some (.cells [.rs (σ.length + 9) 2 0 0 (some 75)]), some (.cells (chk S m' p' (.rs (σ.length + 10) 2 0 0 (some 110)) old (σ.length + 7) (.d .nilm))), some (.cells []), some (.cells [])][i]? = some o) : (wst S m p e want w σ m' p' old)[σ.length + i]? = some o := by
  unfold wst; rw [List.getElem?_append_right (by omega), Nat.add_sub_cancel_left]; exact h
theorem wst_rdy {S : Sy} (hS : S.Ok) (hu : usableM S = true) {m p : Int} (hpl : placeM S m p = true) (e : Nd) (want w : Int) (σ : St) : Rdy (Kw S m p σ) [] (σ.length + 10) (wst S m p e want w σ m p (decide (p < 0))) :=
  ⟨hS, hu, trivial, wst_at 8 rfl, wst_at 10 rfl, by simp, fun b hb => by cases hb⟩
theorem wst_ck {S : Sy} (hS : S.Ok) (hu : usableM S = true) {m p : Int} (hpl : placeM S m p = true) (e : Nd) (want w : Int) (σ : St) (G : Glob) (W : List Dg)
    (hpan : 20 ≤ W.length → ∀ s il', Keeps [] (σ ++ wob S m p e want w) s → s[σ.length + 7]? = some (some (.cells [.rs il' 2 0 20 (some 75)])) → s[il']? = some (some (.cells (dcs (W.take 20)))) → σ.length + 6 ≤ il' → G.pan fullA s) :
    Ck (Kw S m p σ) G W (σ ++ wob S m p e want w) [] [] (σ.length + 10) (σ.length + 9) (wst S m p e want w σ m p (decide (p < 0))) := by
  have hk : ∀ s, Keeps [(Kw S m p σ).ic, (Kw S m p σ).ig] (σ ++ wob S m p e want w) s → Keeps [] (σ ++ wob S m p e want w) s := fun s hs => ⟨hs.1, fun id hid _ => hs.2 id hid (by
    simp only [wob, List.length_append, List.length_cons, List.length_nil] at hid
    simp only [Kw, List.mem_cons, List.not_mem_nil, or_false, not_or]
    omega)⟩
  refine ⟨wst_rdy hS hu hpl e want w σ, wst_at 7 rfl, wst_at 9 rfl, by simp, by simp [Kw], by simp [Kw], by simp [Kw], by simp [Kw], by simp [Kw], by omega, by simp [wob], by simp [wob], ?_, fun hW s il' h1 h2 h3 h4 => hpan hW s il' (hk s h1) h2 h3 (by simpa [wob] using h4)⟩
  refine ⟨by simp [wob, wst], fun id hid _ => ?_⟩
  have e : wst S m p e want w σ m p (decide (p < 0)) = (σ ++ wob S m p e want w) ++ [scs S, some (.cells [.rs (σ.length + 9) 2 0 0 (some 75)]), some (.cells (chk S m p (.rs (σ.length + 10) 2 0 0 (some 110)) (decide (p < 0)) (σ.length + 7) (.d .nilm))), some (.cells []), some (.cells [])] := by
    simp only [wst, wob, List.append_assoc, List.cons_append, List.nil_append]
  rw [e, List.getElem?_append_left hid]
set_option maxHeartbeats 8000000 in
theorem wclo_ac {S : Sy} (hS : S.Ok) (hu : usableM S = true) {m p : Int} (hpl : placeM S m p = true) {e : Nd} (hok : e.Ok) (hn : e.nodes ≤ 10000) (want : Nat) (hw : want ≤ 8) (σ : St) (G : Glob)
    (hpan : 20 ≤ (dM S m p e want).length → ∀ s il', Keeps [] (σ ++ wob S m p e want (wM S m p e want)) s → s[σ.length + 7]? = some (some (.cells [.rs il' 2 0 20 (some 75)])) → s[il']? = some (some (.cells (dcs ((dM S m p e want).take 20)))) → σ.length + 6 ≤ il' → G.pan fullA s)
    (R : A → St → Prop) (h : ∀ r s il', (dM S m p e want).length < 20 → Keeps [] (σ ++ wob S m p e want (wM S m p e want)) s → s[σ.length + 7]? = some (some (.cells [.rs il' 2 0 (dM S m p e want).length (some 75)])) → s[il']? = some (some (.cells (dcs (dM S m p e want)))) → σ.length + 6 ≤ il' → R r s) :
    AC Try.prog G 34 [.ref (σ.length + 8) 0, .ref (σ.length + 1) 0, .ref (σ.length + 2) 0, .ref (σ.length + 3) 0, .ref (σ.length + 4) 0, .ref (σ.length + 5) 0] (wst S m p e want 0 σ 0 (-1) false) R := by
  unfold wst chk
  refine ac_enter' mixed Try.func34 rfl Try.ntmps34 (by simp only [go_sem]) fun hbd => ?_
  simp only [List.length_cons, List.length_nil, Nat.reduceAdd, Nat.reduceSub, List.replicate_succ, List.replicate_zero, List.cons_append, List.nil_append]
  simp only [go_sem, Nat.reduceAdd, Try.results34]
  have hr := wst_rdy hS hu hpl e want 0 σ
  obtain ⟨w, hwe, hw1, hw8⟩ := width_nat (X := Kw S m p σ) (B := []) (e := e) hu hw
  have hwM : wM S m p e want = w := hwe
  have hdM : dM S m p e want = exprM (Kw S m p σ).C e [] w := by unfold dM; rw [hwM]; rfl
  rw [hdM, hwM] at hpan h
  have hck := wst_ck hS hu hpl e want w σ G (exprM (Kw S m p σ).C e [] w) hpan
  unfold wst chk at hr
  rw [← Nd.d_eq e]
  refine ac' (width_ac hok want _ hr _ _ ?_)
  rw [hwe]
  simp only [go_sem, Nat.reduceAdd, Try.results34]
  rw [← Nd.d_eq e]
  unfold wst chk at hck
  refine ac' (expr_ac e hok [] [] _ _ _ w hw8 hck (.inl (by simpa using hn)) (by simp) _ fun r ib' il' σ' k1 k2 => ?_)
  refine ⟨_, _, Weak.refl _ _ _ _, h _ _ il' (by simpa using k1.lt) ?_ (by have := k1.g; simpa [Kw] using this) (by simpa using k1.l) (by have := k1.lowl; simpa [wob] using this)⟩
  exact ⟨k1.keep.1, fun id hid _ => k1.keep.2 id hid (by
    simp only [wob, List.length_append, List.length_cons, List.length_nil] at hid
    simp only [Kw, List.mem_cons, List.not_mem_nil, or_false, not_or]
    omega)⟩
set_option maxHeartbeats 8000000 in
theorem widthF_ac {S : Sy} (hS : S.Ok) (m p : Int) {e : Nd} (hok : e.Ok) (hn : e.nodes ≤ 10000) (want : Int) (σ : St) (G : Glob) (R : A → St → Prop) (h : R (.tup [di (widthR S m p e want).1, .d (dgsD (widthR S m p e want).2)]) σ) :
    AC Try.prog G 13 [.d (syD S), di m, di p, .d e.d, di want] σ R := by
  have hsy : syD S = .agg [.sl 22 (S.mods.map moD), vrsD S.vars, .sl 12 (S.locks.map lkD), .sl 16 (S.procs.map prD), .sl 5 (S.threads.map thD)] := rfl
  rw [hsy, Nd.d_eq]
  refine ac_enter' mixed Try.func13 rfl Try.ntmps13 (by simp only [go_sem]) fun hbd => ?_
  simp only [List.length_cons, List.length_nil, Nat.reduceAdd, Nat.reduceSub, List.replicate_succ, List.replicate_zero, List.cons_append, List.nil_append]
  simp only [go_sem, Try.results13]
  refine aw_plan (.take 0 <| .pure 1 <| .tk 45 2 <| .done) (by kernel_rfl) ?_
  simp only [go_sem, Try.results13]
  refine exP (db (usableM S)) ⟨fun σ' => ?_, ?_⟩
  · simp only [go_sem, Try.results13]
    rw [← hsy]
    exact ac' (usable_ac S hS _ _ _ ⟨rfl, rfl⟩)
  have hbad : goodM S m p want = false → ∀ l : St, ∃ r σ', Weak G σ.length [.tup [di 0, .d (.sl 2 [.agg [iD 1, iD e.pos]])]] (σ ++ l) [r] σ' ∧ R r σ' := fun hg l => by
    have hw : widthR S m p e want = (0, [⟨1, e.pos⟩]) := by unfold widthR; rw [hg]; rfl
    rw [hw] at h
    exact ret_bd hbd rfl h
  have hgo : goodM S m p want = true → ∀ R' : A → St → Prop, (∀ r, R (.tup [di (wM S m p e want), r]) σ → True) → (R' (.d (dgsD ((dM S m p e want).take 20))) (σ ++ wob S m p e want (wM S m p e want))) →
      AC Try.prog G 33 [.d (syD S), .fn (.func 34) [] [.ref (σ.length + 1) 0, .ref (σ.length + 2) 0, .ref (σ.length + 3) 0, .ref (σ.length + 4) 0, .ref (σ.length + 5) 0]] (σ ++ wob S m p e want 0) R' := fun hg R' _ hR' => by
    unfold goodM at hg
    simp only [Bool.and_eq_true, decide_eq_true_eq] at hg
    obtain ⟨⟨hu, hpl⟩, hw0, hw8⟩ := hg
    obtain ⟨w, rfl⟩ : ∃ w : Nat, want = w := ⟨want.toNat, by omega⟩
    refine collect_ac S 34 _ (fun _ _ => trivial) (dM S m p e w) _ (σ ++ wob S m p e w (wM S m p e w)) (by simp [wob]) ?_ G (fun G' hG' hpan R'' hR'' => ?_) R' hR'
    · exact (hbd.mono (by simp)).append fun o ho => by
        simp only [wob, List.mem_cons, List.not_mem_nil, or_false, Option.some.injEq] at ho
        rcases ho with rfl | rfl | rfl | rfl | rfl | rfl <;> rfl
    · have := wclo_ac hS hu hpl hok hn w (by omega) σ G' (fun h20 s il' k1 k2 k3 k4 => hpan h20 s il' k1 (by simpa [wob] using k2) k3 (by simpa [wob] using k4)) R'' (fun r s il' h20 k1 k2 k3 k4 => hR'' r s il' h20 k1 (by simpa [wob] using k2) k3 (by simpa [wob] using k4))
      rw [sto_eq]
      simpa [wob] using this
  have hr3 : ∀ l : St, l[5]? = some (some (.cells [di 1, di e.pos])) → goodM S m p want = false → ∃ r σ', Weak G σ.length [.tup [di 0, .rs (σ.length + 5) 2 0 1 (some 75)]] (σ ++ l) [r] σ' ∧ R r σ' := fun l hl5 hg => by
    refine ret_frz 5 2 0 [.agg [iD 1, iD e.pos]] hl5 (lies_of fun x hx => ?_) ?_
    · simp only [List.mem_cons, List.not_mem_nil, or_false] at hx
      subst hx
      refine ⟨rfl, fun y hy => ?_⟩
      simp only [D.cells, List.mem_cons, List.not_mem_nil, or_false] at hy
      rcases hy with rfl | rfl <;> rfl
    · have := hbad hg (l.set 5 none)
      simpa [A.frz, frzL] using this
  by_cases hb : (usableM S && decide (0 ≤ m) && decide (m < (S.mods.length : Int)) && decide (0 ≤ want) && decide (want ≤ 8) && decide (-1 ≤ p) && decide (p < (S.procs.length : Int))) = true
  · have hb2 := hb
    simp only [Bool.and_eq_true, decide_eq_true_eq] at hb2
    obtain ⟨⟨⟨⟨⟨⟨hu, h1⟩, h2⟩, h6⟩, h7⟩, h3⟩, h4⟩ := hb2
    have hin : inMods S m = true := by unfold inMods; simp; exact ⟨h1, h2⟩
    by_cases hneg : p < 0
    · have dp : decide (p < 0) = true := by simpa using hneg
      have hpr : prAt S p = none := by unfold prAt; rw [if_neg (by omega)]
      have hg : goodM S m p want = true := by
        unfold goodM placeM
        rw [hu, hin, hpr]
        simp; omega
      simp only [go_sem, List.length_map, hb, dp, Try.results13]
      rw [← hsy]
      refine ac' (hgo hg _ (fun _ _ => trivial) ?_)
      simp only [wob, go_sem, Try.results13]
      have hw : widthR S m p e want = (wM S m p e want, (dM S m p e want).take 20) := by unfold widthR; rw [hg]; rfl
      rw [hw] at h
      exact ret_bd hbd rfl h
    · have dp : decide (p < 0) = false := by simpa using hneg
      have hpr := prAt_lt (S := S) (p := p) (by omega) h4
      have e1 := pr_d (l := S.procs) (i := p.toNat) (by omega)
      generalize S.procs.getD p.toNat pr0 = q at e1 hpr
      simp only [prD, vrsD, isD, Nd.cs, List.cons_append, List.nil_append] at e1
      simp only [go_sem, List.length_map, hb, dp, e1, Try.results13]
      have hgq : goodM S m p want = (q.mod == m) := by
        unfold goodM placeM
        rw [hu, hin, hpr]
        rw [Bool.eq_iff_iff]; simp; omega
      refine ⟨⟨by omega, by omega⟩, fun c => ?_, fun c => ?_⟩
      · have hg : goodM S m p want = false := by rw [hgq]; simpa using c
        refine aw_plan (.tk 3 0 <| .take 4 <| .take 3 <| .take 5 <| .done) (by kernel_rfl) ?_
        simp only [go_sem, Try.results13]
        exact hr3 _ rfl hg
      · have hg : goodM S m p want = true := by rw [hgq]; simpa using c
        rw [← hsy]
        refine ac' (hgo hg _ (fun _ _ => trivial) ?_)
        simp only [wob, go_sem, Try.results13]
        have hw : widthR S m p e want = (wM S m p e want, (dM S m p e want).take 20) := by unfold widthR; rw [hg]; rfl
        rw [hw] at h
        exact ret_bd hbd rfl h
  · have hb' : (usableM S && decide (0 ≤ m) && decide (m < (S.mods.length : Int)) && decide (0 ≤ want) && decide (want ≤ 8) && decide (-1 ≤ p) && decide (p < (S.procs.length : Int))) = false := by simpa only [Bool.not_eq_true] using hb
    have hg : goodM S m p want = false := by
      rw [← Bool.not_eq_true]
      intro hg
      unfold goodM placeM inMods at hg
      simp only [Bool.and_eq_true, decide_eq_true_eq] at hg
      apply hb
      simp only [Bool.and_eq_true, decide_eq_true_eq]
      obtain ⟨⟨hu, ⟨⟨h1, h2⟩, h3, h4⟩, h5⟩, h6, h7⟩ := hg
      exact ⟨⟨⟨⟨⟨⟨hu, h1⟩, h2⟩, h6⟩, h7⟩, h3⟩, h4⟩
    simp only [go_sem, List.length_map, hb', Try.results13]
    refine aw_plan (.tk 3 0 <| .take 4 <| .take 3 <| .take 5 <| .done) (by kernel_rfl) ?_
    simp only [go_sem, Try.results13]
    exact hr3 _ rfl hg
end Go.Proofs.Ytfoblkeefpaceaa
end PartK10
