import Derived.Test.YtpmjdaiboniagaaMT3

section PartU9
/- newPropagator: its store, its table, plain. -/
set_option linter.unusedSimpArgs false
set_option linter.unusedVariables false
set_option maxRecDepth 100000
namespace Go.Proofs.Ytpmjdaiboniagaa
open Go Go.Ab

abbrev natsO (l : List Nat) : Option Ob := some (.cells (l.map fun n : Nat => A.d (iD n)))
/-- The table of occurrences, in the making: each slice an object of its own. -/
structure Tb (st : St) (base : Nat) (cs : List A) (occ : List (List Nat)) : Prop where
  len : cs.length = occ.length
  cell : ∀ c, c < occ.length → occ.getD c [] = [] ∧ cs.getD c .any = .d .nils ∨ ∃ j, base ≤ j ∧ cs.getD c .any = .rs j 1 0 (occ.getD c []).length (some 3) ∧ st[j]? = some (natsO (occ.getD c []))
  inj : ∀ c c' j n n', cs.getD c .any = .rs j 1 0 n (some 3) → cs.getD c' .any = .rs j 1 0 n' (some 3) → c = c'
/-- The store in the making. -/
structure Np (st : St) (σ : St) (f : Cnf) (N : Nat) (cs : List A) (occ : List (List Nat)) (op la : List Int) : Prop where
  b0 : st[σ.length]? = some (some (.cells [.d (iD f.vars), .d (clsD f.cls)]))
  p : st[σ.length + 1]? = some (some (.cells [.d (iD f.vars), .d (clsD f.cls), .rs (σ.length + 3) 1 0 N (some 4), .rs (σ.length + 4) 1 0 N (some 25), .rs (σ.length + 5) 1 0 f.cls.length (some 3), .rs (σ.length + 6) 1 0 f.cls.length (some 4), .d .nils, .d .nils, .d .nils]))
  pb : st[σ.length + 2]? = some (some (.cells [.ref (σ.length + 1) 0]))
  tr : st[σ.length + 3]? = some (bolsO (List.replicate N false))
  oc : st[σ.length + 4]? = some (some (.cells cs))
  op : st[σ.length + 5]? = some (ints op)
  sa : st[σ.length + 6]? = some (bolsO (List.replicate f.cls.length false))
  la : st[σ.length + 7]? = some (ints la)
  lb : st[σ.length + 8]? = some (some (.cells [.rs (σ.length + 7) 1 0 N (some 3)]))
  tb : Tb st (σ.length + 10) cs occ
  pre : ∀ id, id < σ.length → st[id]? = σ[id]?
  len : σ.length + 10 ≤ st.length
theorem gset {α : Type} {l : List α} {j k : Nat} {x d : α} (h : j < l.length) : (l.set j x).getD k d = if k = j then x else l.getD k d := by
  rw [List.getD_eq_getElem?_getD, List.getElem?_set]
  by_cases e : j = k
  · subst e; simp [h]
  · rw [if_neg e, if_neg (fun x => e x.symm), List.getD_eq_getElem?_getD]
theorem Tb.low {st : St} {base : Nat} {cs : List A} {occ : List (List Nat)} (h : Tb st base cs occ) {c i n : Nat} (hc : c < occ.length) (e : cs.getD c .any = .rs i 1 0 n (some 3)) : base ≤ i ∧ i < st.length := by
  rcases h.cell c hc with ⟨_, e1⟩ | ⟨j, hj, e1, e2⟩
  · rw [e] at e1; cases e1
  · rw [e] at e1; cases e1; exact ⟨hj, lt_of_some e2⟩
/-- A number is added to a slice of the table. -/
theorem Np.step {st st' σ : St} {f : Cnf} {N : Nat} {cs : List A} {occ : List (List Nat)} {op la op' la' : List Int} (h : Np st σ f N cs occ op la) {c id j : Nat} (hc : c < occ.length) (hid : st.length ≤ id)
    (k4 : st'[σ.length + 4]? = some (some (.cells (cs.set c (.rs id 1 0 ((occ.getD c []).length + 1) (some 3)))))) (kid : st'[id]? = some (natsO (occ.getD c [] ++ [j]))) (k5 : st'[σ.length + 5]? = some (ints op')) (k7 : st'[σ.length + 7]? = some (ints la'))
    (hk : ∀ i, i < st.length → i ≠ σ.length + 4 → i ≠ σ.length + 5 → i ≠ σ.length + 7 → (∀ n, cs.getD c .any ≠ .rs i 1 0 n (some 3)) → st'[i]? = st[i]?) (hl : st.length ≤ st'.length) :
    Np st' σ f N (cs.set c (.rs id 1 0 ((occ.getD c []).length + 1) (some 3))) (occ.set c (occ.getD c [] ++ [j])) op' la' := by
  have hlen := h.len
  have hne : ∀ i, i < σ.length + 10 → ∀ n, cs.getD c .any ≠ .rs i 1 0 n (some 3) := fun i hi n e => by
    have := (h.tb.low hc e).1; omega
  have hcs : c < cs.length := by rw [h.tb.len]; exact hc
  have hk' : ∀ i, i < σ.length + 10 → i ≠ σ.length + 4 → i ≠ σ.length + 5 → i ≠ σ.length + 7 → st'[i]? = st[i]? := fun i hi a b d => hk i (by omega) a b d (hne i hi)
  refine ⟨(hk' _ (by omega) (by omega) (by omega) (by omega)).trans h.b0, (hk' _ (by omega) (by omega) (by omega) (by omega)).trans h.p, (hk' _ (by omega) (by omega) (by omega) (by omega)).trans h.pb, (hk' _ (by omega) (by omega) (by omega) (by omega)).trans h.tr, k4, k5, (hk' _ (by omega) (by omega) (by omega) (by omega)).trans h.sa, k7, (hk' _ (by omega) (by omega) (by omega) (by omega)).trans h.lb, ⟨by simp [h.tb.len], fun c' hc' => ?_, fun c1 c2 i n n' e1 e2 => ?_⟩, fun i hi => (hk' _ (by omega) (by omega) (by omega) (by omega)).trans (h.pre i hi), by omega⟩
  · rw [gset hc, gset hcs]
    by_cases e : c' = c
    · rw [if_pos e, if_pos e]
      exact .inr ⟨id, by omega, by simp, kid⟩
    · rw [if_neg e, if_neg e]
      rcases h.tb.cell c' (by simpa using hc') with k | ⟨i, hi, e1, e2⟩
      · exact .inl k
      · refine .inr ⟨i, hi, e1, (hk i (lt_of_some e2) (by omega) (by omega) (by omega) fun n en => e (h.tb.inj _ _ _ _ _ e1 en)).trans e2⟩
  · rw [gset hcs] at e1 e2
    have out : ∀ {c' n}, cs.getD c' .any = .rs id 1 0 n (some 3) → False := fun {c' n} en => by
      rcases Nat.lt_or_ge c' occ.length with hh | hh
      · have := (h.tb.low hh en).2; omega
      · rw [List.getD_eq_getElem?_getD, List.getElem?_eq_none (by rw [h.tb.len]; omega)] at en; cases en
    by_cases a1 : c1 = c
    · by_cases a2 : c2 = c
      · rw [a1, a2]
      · rw [if_pos a1] at e1; rw [if_neg a2] at e2
        injection e1 with e1; subst e1
        exact (out e2).elim
    · by_cases a2 : c2 = c
      · rw [if_neg a1] at e1; rw [if_pos a2] at e2
        injection e2 with e2; subst e2
        exact (out e1).elim
      · rw [if_neg a1] at e1; rw [if_neg a2] at e2
        exact h.tb.inj _ _ _ _ _ e1 e2
/-- What the table says after i clauses and k literals of the next. -/
structure NI (f : Cnf) (i k : Nat) (occ : List (List Nat)) (op la : List Int) : Prop where
  lo : occ.length = (2 * f.vars + 2).toNat
  ll : la.length = (2 * f.vars + 2).toNat
  lp : op.length = f.cls.length
  a1 : ∀ l, -f.vars ≤ l → l ≤ f.vars → l ≠ 0 → ∀ j, j ∈ occ.getD (codeN l) [] ↔ (j < i ∧ l ∈ f.cls.getD j []) ∨ (j = i ∧ l ∈ (f.cls.getD i []).take k)
  a2 : ∀ l, -f.vars ≤ l → l ≤ f.vars → l ≠ 0 → (la.getD (codeN l) 0 = (i : Int) + 1 ↔ l ∈ (f.cls.getD i []).take k)
  b2 : ∀ c, la.getD c 0 ≤ (i : Int) + 1
  a3 : ∀ j, j < i → op.getD j 0 = (opL [] (f.cls.getD j [])).length
  b3 : op.getD i 0 = (opL [] ((f.cls.getD i []).take k)).length
  c3 : ∀ j, i < j → op.getD j 0 = 0
  a4 : ∀ c, (occ.getD c []).Nodup ∧ ∀ j ∈ occ.getD c [], j < f.cls.length
theorem opL_mem {c : List Int} {x : Int} : x ∈ opL [] c ↔ x ∈ c := by rw [mem_opL]; simp
theorem opL_dup {c : List Int} {x : Int} (h : x ∈ c) : (opL [] (c ++ [x])).length = (opL [] c).length := by
  refine ((List.perm_ext_iff_of_nodup opL_nodup opL_nodup).2 fun y => ?_).length_eq
  rw [opL_mem, opL_mem, List.mem_append, List.mem_singleton]
  exact ⟨fun k => k.elim id (fun e => e ▸ h), .inl⟩
theorem opL_new {c : List Int} {x : Int} (h : x ∉ c) : (opL [] (c ++ [x])).length = (opL [] c).length + 1 := by
  refine ((List.perm_ext_iff_of_nodup (l₂ := x :: opL [] c) opL_nodup (List.nodup_cons.2 ⟨fun k => h (opL_mem.1 k), opL_nodup⟩)).2 fun y => ?_).length_eq
  rw [opL_mem, List.mem_cons, opL_mem, List.mem_append, List.mem_singleton]
  exact ⟨fun k => k.symm, fun k => k.symm⟩
theorem take_snoc23 {c : List Int} {k : Nat} (h : k < c.length) : c.take (k + 1) = c.take k ++ [c.getD k 0] := by
  rw [List.take_add_one, List.getD_eq_getElem?_getD, List.getElem?_eq_getElem h]; rfl
theorem NI.skip {f : Cnf} {i k : Nat} {occ : List (List Nat)} {op la : List Int} (h : NI f i k occ op la) (hk : k < (f.cls.getD i []).length) (hx : (f.cls.getD i []).getD k 0 ∈ (f.cls.getD i []).take k) : NI f i (k + 1) occ op la := by
  have e : ∀ l, l ∈ (f.cls.getD i []).take (k + 1) ↔ l ∈ (f.cls.getD i []).take k := fun l => by
    rw [take_snoc23 hk, List.mem_append, List.mem_singleton]
    exact ⟨fun q => q.elim id (fun e => e ▸ hx), .inl⟩
  refine ⟨h.lo, h.ll, h.lp, fun l p q r j => ?_, fun l p q r => ?_, h.b2, h.a3, ?_, h.c3, h.a4⟩
  · rw [e]; exact h.a1 l p q r j
  · rw [e]; exact h.a2 l p q r
  · rw [take_snoc23 hk, opL_dup hx]; exact h.b3
theorem NI.add {f : Cnf} {i k : Nat} {occ : List (List Nat)} {op la : List Int} (h : NI f i k occ op la) (hi : i < f.cls.length) (hk : k < (f.cls.getD i []).length) (hx : (f.cls.getD i []).getD k 0 ∉ (f.cls.getD i []).take k) (hv : 0 ≤ f.vars)
    (hr : (f.cls.getD i []).getD k 0 ≠ 0 ∧ -f.vars ≤ (f.cls.getD i []).getD k 0 ∧ (f.cls.getD i []).getD k 0 ≤ f.vars) :
    NI f i (k + 1) (occ.set (codeN ((f.cls.getD i []).getD k 0)) (occ.getD (codeN ((f.cls.getD i []).getD k 0)) [] ++ [i])) (op.set i (op.getD i 0 + 1)) (la.set (codeN ((f.cls.getD i []).getD k 0)) ((i : Int) + 1)) := by
  have hts := take_snoc23 hk
  generalize (f.cls.getD i []).getD k 0 = x at hx hr hts ⊢
  have hcx : codeN x < (2 * f.vars + 2).toNat := codeN_lt hv hr.2
  have hno : i ∉ occ.getD (codeN x) [] := fun hm => by
    rcases (h.a1 x hr.2.1 hr.2.2 hr.1 i).1 hm with ⟨q, _⟩ | ⟨_, q⟩
    · omega
    · exact hx q
  refine ⟨by simp [h.lo], by simp [h.ll], by simp [h.lp], fun l p q r j => ?_, fun l p q r => ?_, fun c => ?_, fun j hj => ?_, ?_, fun j hj => ?_, fun c => ?_⟩
  · rw [gset (by rw [h.lo]; exact hcx), hts, List.mem_append, List.mem_singleton]
    by_cases e : codeN l = codeN x
    · have e' := codeN_inj e (.inr trivial)
      subst e'
      rw [if_pos rfl, List.mem_append, h.a1 l p q r j, List.mem_singleton]
      constructor
      · rintro ((k | ⟨k, k'⟩) | k)
        · exact .inl k
        · exact .inr ⟨k, .inl k'⟩
        · exact .inr ⟨k, .inr rfl⟩
      · rintro (k | ⟨k, _⟩)
        · exact .inl (.inl k)
        · exact .inr k
    · rw [if_neg e, h.a1 l p q r j]
      have : l ≠ x := fun k => e (by rw [k])
      simp [this]
  · rw [gset (by rw [h.ll]; exact hcx), hts, List.mem_append, List.mem_singleton]
    by_cases e : codeN l = codeN x
    · rw [if_pos e]
      exact ⟨fun _ => .inr (codeN_inj e (.inr trivial)), fun _ => rfl⟩
    · rw [if_neg e, h.a2 l p q r]
      have : l ≠ x := fun k => e (by rw [k])
      simp [this]
  · rw [gset (by rw [h.ll]; exact hcx)]
    split
    · exact Int.le_refl _
    · exact h.b2 c
  · rw [gset (by rw [h.lp]; exact hi), if_neg (by omega)]; exact h.a3 j hj
  · rw [gset (by rw [h.lp]; exact hi), if_pos rfl, hts, opL_new hx, h.b3]; rfl
  · rw [gset (by rw [h.lp]; exact hi), if_neg (by omega)]; exact h.c3 j hj
  · rw [gset (by rw [h.lo]; exact hcx)]
    split
    · rename_i e
      refine ⟨List.nodup_append.2 ⟨(h.a4 _).1, by simp, fun a ha b hb => ?_⟩, fun j hj => ?_⟩
      · rw [List.mem_singleton] at hb; subst hb
        exact fun k => hno (k ▸ ha)
      · rcases List.mem_append.1 hj with k | k
        · exact (h.a4 _).2 j k
        · rw [List.mem_singleton] at k; omega
    · exact h.a4 c
theorem NI.next {f : Cnf} {i k : Nat} {occ : List (List Nat)} {op la : List Int} (h : NI f i k occ op la) (hk : (f.cls.getD i []).length ≤ k) : NI f (i + 1) 0 occ op la := by
  have e := List.take_of_length_le hk
  refine ⟨h.lo, h.ll, h.lp, fun l p q r j => ?_, fun l p q r => ?_, fun c => ?_, fun j hj => ?_, ?_, fun j hj => h.c3 j (by omega), h.a4⟩
  · rw [h.a1 l p q r j, e]
    constructor
    · rintro (⟨a, b⟩ | ⟨rfl, b⟩)
      · exact .inl ⟨by omega, b⟩
      · exact .inl ⟨by omega, b⟩
    · rintro (⟨a, b⟩ | ⟨_, b⟩)
      · by_cases k : j = i
        · exact .inr ⟨k, k ▸ b⟩
        · exact .inl ⟨by omega, b⟩
      · simp at b
  · have := h.b2 (codeN l)
    constructor
    · intro k; omega
    · intro k; simp at k
  · have := h.b2 c; omega
  · by_cases k : j = i
    · have := h.b3; rw [e] at this; rw [k]; exact this
    · exact h.a3 j (by omega)
  · rw [h.c3 _ (by omega)]; rfl
theorem NI.zero {f : Cnf} {N : Nat} (hN : N = (2 * f.vars + 2).toNat) : NI f 0 0 (List.replicate N []) (List.replicate f.cls.length 0) (List.replicate N 0) := by
  have g : ∀ {α : Type} (n c : Nat) (a : α), (List.replicate n a).getD c a = a := fun n c a => by
    rw [List.getD_eq_getElem?_getD, List.getElem?_replicate]; split <;> rfl
  refine ⟨by simp [hN], by simp [hN], by simp, fun l p q r j => ?_, fun l p q r => ?_, fun c => ?_, fun j hj => by omega, ?_, fun j hj => g _ _ _, fun c => ?_⟩
  · rw [g]; simp
  · rw [g]; simp
  · rw [g]; simp
  · rw [g]; simp [opL]
  · rw [g]; simp
theorem NI.ok {f : Cnf} {occ : List (List Nat)} {op la : List Int} (h : NI f f.cls.length 0 occ op la) : OccOk f occ ∧ (∀ is ∈ occ, is.length ≤ f.cls.length ∧ ∀ i ∈ is, i < f.cls.length) ∧ op = f.cls.map (fun c => ((opL [] c).length : Int)) := by
  refine ⟨⟨h.lo, fun l p q r => ⟨(h.a4 _).1, fun i => ?_⟩⟩, fun is his => ?_, getD_ext 0 (by simp [h.lp]) fun i hi => ?_⟩
  · rw [h.a1 l p q r i]; simp
  · obtain ⟨c, hc, rfl⟩ := List.getElem_of_mem his
    have := h.a4 c
    rw [List.getD_eq_getElem?_getD, List.getElem?_eq_getElem hc] at this
    exact ⟨nodup_len this.1 this.2, this.2⟩
  · rw [h.lp] at hi
    rw [opL_getD hi]; exact h.a3 i hi
end Go.Proofs.Ytpmjdaiboniagaa
end PartU9

section PartU11
/- newPropagator's store, turned to the propagator. -/
set_option linter.unusedSimpArgs false
set_option linter.unusedVariables false
namespace Go.Proofs.Ytpmjdaiboniagaa
open Go Go.Ab

theorem dpL_d {n0 : Nat} {J : List Nat} {l : St} {f : Nat} {α : Type} {h : α → D} : ∀ xs : List α, dpL (dpD n0 J l (f + 1)) (xs.map fun x => A.d (h x)) = some (xs.map h)
  | [] => rfl
  | x :: xs => by rw [List.map_cons, dpL, dpL_d xs]; rfl
theorem dpL_tab {g : A → Option D} : ∀ (cs : List A) (occ : List (List Nat)), cs.length = occ.length → (∀ c, c < occ.length → (g (cs.getD c .any) = some .nils ∧ occ.getD c [] = []) ∨ g (cs.getD c .any) = some (natD (occ.getD c []))) →
    ∃ ds, dpL g cs = some ds ∧ ds.length = occ.length ∧ NilDL ds (occ.map natD) ∧ ds.all D.one = true
  | [], [], _, _ => ⟨[], rfl, rfl, .nil, rfl⟩
  | a :: cs, o :: occ, hl, h => by
    obtain ⟨ds, h1, h2, h3, h4⟩ := dpL_tab cs occ (by simpa using hl) fun c hc => by
      have := h (c + 1) (by simpa using hc)
      simpa using this
    have h0 := h 0 (by simp)
    simp only [List.getD_cons_zero] at h0
    rcases h0 with ⟨e, rfl⟩ | e
    · exact ⟨.nils :: ds, by rw [dpL, e, h1]; rfl, by simp [h2], .cons (.nil 1) h3, by rw [List.all_cons, h4]; rfl⟩
    · exact ⟨natD o :: ds, by rw [dpL, e, h1]; rfl, by simp [h2], .cons (.refl _) h3, by rw [List.all_cons, h4]; rfl⟩
theorem Wempty {G : Glob} {n0 : Nat} {fr : Fr} {σ l : St} {i c : Nat} {ds : List A} (hi : l[i]? = some (some (.cells ds))) (hc : ds[c]? = some (.d .nils)) :
    ∃ l', Weak G n0 fr (σ ++ l) fr (σ ++ l') ∧ l'.length = l.length + 1 ∧ l'[i]? = some (some (.cells (ds.set c (.rs (σ.length + l.length) 1 0 0 (some 3))))) ∧ l'[l.length]? = some (some (.cells [])) ∧ ∀ k, k ≠ i → k < l.length → l'[k]? = l[k]? := by
  have hil := lt_of_some hi
  refine ⟨_, Weak.emptyIn i c 1 (some 3) hi hc, by simp, ?_, ?_, fun k hk hl => ?_⟩
  · rw [List.getElem?_append_left (by simpa using hil), List.getElem?_set, if_pos rfl, if_pos hil]
  · rw [List.getElem?_append_right (by simp)]; simp
  · rw [List.getElem?_append_left (by simpa using hl), List.getElem?_set_ne (fun e => hk e.symm)]
theorem map_dp {n0 : Nat} {J : List Nat} {l : St} {f : Nat} {α : Type} {h : α → D} (xs : List α) : (xs.map fun x => A.d (h x)).map (dpA n0 J l (f + 1)) = xs.map fun x => A.d (h x) := by
  rw [List.map_map]; exact List.map_congr_left fun x _ => rfl
theorem Np.fin {G : Glob} {st σ : St} {f : Cnf} {N : Nat} {cs : List A} {occ : List (List Nat)} {op la : List Int} (hP : Np st σ f N cs occ op la) (hN : occ.length = N) (hop : op.length = f.cls.length) :
    ∃ σ' d, Weak G σ.length [.ref (σ.length + 1) 0] st [.ref d.ip 0] σ' ∧ Pg σ' d f occ (List.replicate N false) op (List.replicate f.cls.length false) [] [] [] ∧ (∀ i ∈ d.all, σ.length ≤ i) ∧ ∀ id, id < σ.length → σ'[id]? = σ[id]? := by
  obtain ⟨l, rfl⟩ : ∃ l, st = σ ++ l := ⟨st.drop σ.length, by
    refine List.ext_getElem? fun k => ?_
    rcases Nat.lt_or_ge k σ.length with h | h
    · rw [hP.pre k h, List.getElem?_append_left h]
    · rw [List.getElem?_append_right h, List.getElem?_drop]; congr 1; omega⟩
  have g : ∀ {k x}, (σ ++ l)[σ.length + k]? = x → l[k]? = x := fun {k x} h => by
    rw [List.getElem?_append_right (by omega), Nat.add_sub_cancel_left] at h; exact h
  have hl : 10 ≤ l.length := by have := hP.len; rw [List.length_append] at this; omega
  obtain ⟨J, hJd⟩ : ∃ J, J = 4 :: (List.range l.length).filter (fun k => decide (10 ≤ k)) := ⟨_, rfl⟩
  have hJ : ∀ k, J.contains k = true ↔ k = 4 ∨ 10 ≤ k ∧ k < l.length := fun k => by
    rw [hJd, List.contains_iff_mem, List.mem_cons, List.mem_filter, List.mem_range, decide_eq_true_eq]
    exact or_congr Iff.rfl ⟨fun h => ⟨h.2, h.1⟩, fun h => ⟨h.2, h.1⟩⟩
  have hJn : ∀ k, k < 10 → k ≠ 4 → J.contains k = false := fun k h1 h2 => by
    rw [← Bool.not_eq_true, hJ]; omega
  have own : ∀ {k cs}, l[k]? = some (some (.cells cs)) → J.contains k = true → ownC σ.length J l (σ.length + k) = some cs := fun {k cs} h1 h2 => by
    rw [ownC_add, if_pos h2, List.getD_eq_getElem?_getD, h1]; rfl
  have ownn : ∀ {k}, k < 10 → k ≠ 4 → ownC σ.length J l (σ.length + k) = none := fun {k} h1 h2 => by
    rw [ownC_add, hJn k h1 h2]; rfl
  obtain ⟨ds, d1, d2, d3, d4⟩ := dpL_tab (g := dpD σ.length J l 2) cs occ hP.tb.len fun c hc => by
    rcases hP.tb.cell c hc with ⟨e1, e2⟩ | ⟨j, hj, e1, e2⟩
    · exact .inl ⟨by rw [e2]; rfl, e1⟩
    · refine .inr ?_
      rw [e1]
      obtain ⟨k, rfl⟩ : ∃ k, j = σ.length + k := ⟨j - σ.length, by omega⟩
      have e3 := g e2
      have e4 := own e3 ((hJ k).2 (.inr ⟨by omega, lt_of_some e3⟩))
      generalize occ.getD c [] = is at e4 ⊢
      rw [dpD, e4, Option.bind_some, Nat.mul_one, List.drop_zero, List.take_of_length_le (by simp), dpL_d, Option.bind_some, if_pos (by simp), oneAll, if_pos (by simp [List.all_eq_true, D.one])]
      rfl
  have hA4 : dpA σ.length J l 3 (.rs (σ.length + 4) 1 0 N (some 25)) = .d (.sl 1 ds) := by
    have e4 := own (g hP.oc) ((hJ 4).2 (.inl rfl))
    rw [dpA_rs, dpD, e4, Option.bind_some, Nat.mul_one, List.drop_zero, List.take_of_length_le (by rw [hP.tb.len]; omega), d1, Option.bind_some, if_pos (by omega), oneAll, if_pos d4]
    rfl
  have hAn : ∀ {k n w}, k < 10 → k ≠ 4 → dpA σ.length J l 3 (.rs (σ.length + k) 1 0 n w) = .rs (σ.length + k) 1 0 n w := fun {k n w} h1 h2 => by
    rw [dpA_rs, dpD, ownn h1 h2]; rfl
  have hget : ∀ {k cs}, l[k]? = some (some (.cells cs)) → k < 10 → k ≠ 4 → (dpSt J (dpA σ.length J l 3) 0 l)[k]? = some (some (.cells (cs.map (dpA σ.length J l 3)))) := fun {k cs} h1 h2 h3 => by
    rw [dpSt_get, h1, Nat.zero_add, Option.map_some, hJn k h2 h3]; rfl
  have w1 := Weak.deep (G := G) (n0 := σ.length) (fr := [.ref (σ.length + 1) 0]) (σ := σ) (l := l) J 3
  have q1 := hget (g hP.p) (by omega) (by omega)
  have q3 := hget (g hP.tr) (by omega) (by omega)
  have q5 := hget (g hP.op) (by omega) (by omega)
  have q6 := hget (g hP.sa) (by omega) (by omega)
  rw [map_dp] at q3 q5 q6
  have hlen : (dpSt J (dpA σ.length J l 3) 0 l).length = l.length := dpSt_len
  generalize dpSt J (dpA σ.length J l 3) 0 l = l1 at w1 q1 q3 q5 q6 hlen
  simp only [List.map_cons, List.map_nil, dpA_d, dpA_ref, hA4, hAn (k := 3) (by omega) (by omega), hAn (k := 5) (by omega) (by omega), hAn (k := 6) (by omega) (by omega)] at q1 w1
  have w2 := Weak.nilsO (G := G) (n0 := σ.length) (fr := [.ref (σ.length + 1) 0]) (σ := σ) (l := l1) 1 q1 (cs' := [.d (iD f.vars), .d (clsD f.cls), .rs (σ.length + 3) 1 0 N (some 4), .d (occD occ), .rs (σ.length + 5) 1 0 f.cls.length (some 3), .rs (σ.length + 6) 1 0 f.cls.length (some 4), .d .nils, .d .nils, .d .nils])
    (.cons (.refl _) (.cons (.refl _) (.cons (.refl _) (.cons (.d (.sl 1 d3)) (NilAL.refl _)))))
  have r1 : (l1.set 1 (some (.cells [.d (iD f.vars), .d (clsD f.cls), .rs (σ.length + 3) 1 0 N (some 4), .d (occD occ), .rs (σ.length + 5) 1 0 f.cls.length (some 3), .rs (σ.length + 6) 1 0 f.cls.length (some 4), .d .nils, .d .nils, .d .nils])))[1]? = some (some (.cells [.d (iD f.vars), .d (clsD f.cls), .rs (σ.length + 3) 1 0 N (some 4), .d (occD occ), .rs (σ.length + 5) 1 0 f.cls.length (some 3), .rs (σ.length + 6) 1 0 f.cls.length (some 4), .d .nils, .d .nils, .d .nils])) := by
    rw [List.getElem?_set, if_pos rfl, if_pos (by omega)]
  have hset : ∀ k, k ≠ 1 → (l1.set 1 (some (.cells [.d (iD f.vars), .d (clsD f.cls), .rs (σ.length + 3) 1 0 N (some 4), .d (occD occ), .rs (σ.length + 5) 1 0 f.cls.length (some 3), .rs (σ.length + 6) 1 0 f.cls.length (some 4), .d .nils, .d .nils, .d .nils])))[k]? = l1[k]? := fun k hk => List.getElem?_set_ne (fun e => hk e.symm)
  have r3 := (hset 3 (by omega)).trans q3
  have r5 := (hset 5 (by omega)).trans q5
  have r6 := (hset 6 (by omega)).trans q6
  have hlen2 : (l1.set 1 (some (.cells [.d (iD f.vars), .d (clsD f.cls), .rs (σ.length + 3) 1 0 N (some 4), .d (occD occ), .rs (σ.length + 5) 1 0 f.cls.length (some 3), .rs (σ.length + 6) 1 0 f.cls.length (some 4), .d .nils, .d .nils, .d .nils]))).length = l.length := by rw [List.length_set, hlen]
  have w12 := w1.trans w2
  clear w1 w2 q1 q3 q5 q6 hlen hset
  generalize l1.set 1 (some (.cells [.d (iD f.vars), .d (clsD f.cls), .rs (σ.length + 3) 1 0 N (some 4), .d (occD occ), .rs (σ.length + 5) 1 0 f.cls.length (some 3), .rs (σ.length + 6) 1 0 f.cls.length (some 4), .d .nils, .d .nils, .d .nils])) = l2 at w12 r1 r3 r5 r6 hlen2
  obtain ⟨l3, a1, a2, a3, a4, a5⟩ := Wempty (G := G) (n0 := σ.length) (fr := [.ref (σ.length + 1) 0]) (σ := σ) (c := 6) r1 rfl
  obtain ⟨l4, b1, b2, b3, b4, b5⟩ := Wempty (G := G) (n0 := σ.length) (fr := [.ref (σ.length + 1) 0]) (σ := σ) (c := 7) a3 rfl
  obtain ⟨l5, c1, c2, c3, c4, c5⟩ := Wempty (G := G) (n0 := σ.length) (fr := [.ref (σ.length + 1) 0]) (σ := σ) (c := 8) b3 rfl
  have up : ∀ {k x}, l5[k]? = x → (σ ++ l5)[σ.length + k]? = x := fun {k x} h => by
    rw [List.getElem?_append_right (by omega), Nat.add_sub_cancel_left]; exact h
  refine ⟨σ ++ l5, ⟨σ.length + 1, σ.length + 3, σ.length + 5, σ.length + 6, σ.length + l2.length, σ.length + l3.length, σ.length + l4.length⟩, ((w12.trans a1).trans b1).trans c1, ⟨?_, ?_, ?_, ?_, ?_, ?_, ?_, hop, by simp, ?_⟩, fun i hi => ?_, fun id hid => List.getElem?_append_left hid⟩
  · rw [List.length_replicate]; exact up c3
  · exact up ((c5 3 (by omega) (by omega)).trans ((b5 3 (by omega) (by omega)).trans ((a5 3 (by omega) (by omega)).trans r3)))
  · exact up ((c5 5 (by omega) (by omega)).trans ((b5 5 (by omega) (by omega)).trans ((a5 5 (by omega) (by omega)).trans r5)))
  · exact up ((c5 6 (by omega) (by omega)).trans ((b5 6 (by omega) (by omega)).trans ((a5 6 (by omega) (by omega)).trans r6)))
  · exact up ((c5 _ (by omega) (by omega)).trans ((b5 _ (by omega) (by omega)).trans a4))
  · exact up ((c5 _ (by omega) (by omega)).trans b4)
  · exact up c4
  · clear c5 b5 a5 up hJ hJn
    simp only
    omega
  · simp only [Ids.all, List.mem_cons, List.not_mem_nil, or_false] at hi
    omega
end Go.Proofs.Ytpmjdaiboniagaa
end PartU11

section PartU10
/- newPropagator. -/
set_option linter.unusedSimpArgs false
set_option linter.unusedVariables false
set_option maxRecDepth 100000
namespace Go.Proofs.Ytpmjdaiboniagaa
open Go Go.Ab

theorem Np.rec9 {st σ : St} {f : Cnf} {N : Nat} {cs : List A} {occ : List (List Nat)} {op la : List Int} (hP : Np st σ f N cs occ op la) (o : Option Ob) : Np (st.set (σ.length + 9) o) σ f N cs occ op la := by
  have hset : ∀ i, i ≠ σ.length + 9 → (st.set (σ.length + 9) o)[i]? = st[i]? := fun i hi => List.getElem?_set_ne (fun e => hi e.symm)
  refine ⟨(hset _ (by omega)).trans hP.b0, (hset _ (by omega)).trans hP.p, (hset _ (by omega)).trans hP.pb, (hset _ (by omega)).trans hP.tr, (hset _ (by omega)).trans hP.oc, (hset _ (by omega)).trans hP.op, (hset _ (by omega)).trans hP.sa, (hset _ (by omega)).trans hP.la, (hset _ (by omega)).trans hP.lb, ⟨hP.tb.len, fun c hc => ?_, hP.tb.inj⟩, fun id hid => (hset _ (by omega)).trans (hP.pre id hid), by rw [List.length_set]; exact hP.len⟩
  exact (hP.tb.cell c hc).imp id fun ⟨j, hj, e1, e2⟩ => ⟨j, hj, e1, (hset _ (by omega)).trans e2⟩
theorem Np.setLa {st σ : St} {f : Cnf} {N : Nat} {cs : List A} {occ : List (List Nat)} {op la : List Int} (hP : Np st σ f N cs occ op la) (la' : List Int) : Np (st.set (σ.length + 7) (ints la')) σ f N cs occ op la' := by
  have hset : ∀ i, i ≠ σ.length + 7 → (st.set (σ.length + 7) (ints la'))[i]? = st[i]? := fun i hi => List.getElem?_set_ne (fun e => hi e.symm)
  refine ⟨(hset _ (by omega)).trans hP.b0, (hset _ (by omega)).trans hP.p, (hset _ (by omega)).trans hP.pb, (hset _ (by omega)).trans hP.tr, (hset _ (by omega)).trans hP.oc, (hset _ (by omega)).trans hP.op, (hset _ (by omega)).trans hP.sa, by rw [List.getElem?_set, if_pos rfl, if_pos (lt_of_some hP.la)], (hset _ (by omega)).trans hP.lb, ⟨hP.tb.len, fun c hc => ?_, hP.tb.inj⟩, fun id hid => (hset _ (by omega)).trans (hP.pre id hid), by rw [List.length_set]; exact hP.len⟩
  exact (hP.tb.cell c hc).imp id fun ⟨j, hj, e1, e2⟩ => ⟨j, hj, e1, (hset _ (by omega)).trans e2⟩
theorem Np.setOp {st σ : St} {f : Cnf} {N : Nat} {cs : List A} {occ : List (List Nat)} {op la : List Int} (hP : Np st σ f N cs occ op la) (op' : List Int) : Np (st.set (σ.length + 5) (ints op')) σ f N cs occ op' la := by
  have hset : ∀ i, i ≠ σ.length + 5 → (st.set (σ.length + 5) (ints op'))[i]? = st[i]? := fun i hi => List.getElem?_set_ne (fun e => hi e.symm)
  refine ⟨(hset _ (by omega)).trans hP.b0, (hset _ (by omega)).trans hP.p, (hset _ (by omega)).trans hP.pb, (hset _ (by omega)).trans hP.tr, (hset _ (by omega)).trans hP.oc, by rw [List.getElem?_set, if_pos rfl, if_pos (lt_of_some hP.op)], (hset _ (by omega)).trans hP.sa, (hset _ (by omega)).trans hP.la, (hset _ (by omega)).trans hP.lb, ⟨hP.tb.len, fun c hc => ?_, hP.tb.inj⟩, fun id hid => (hset _ (by omega)).trans (hP.pre id hid), by rw [List.length_set]; exact hP.len⟩
  exact (hP.tb.cell c hc).imp id fun ⟨j, hj, e1, e2⟩ => ⟨j, hj, e1, (hset _ (by omega)).trans e2⟩
set_option maxHeartbeats 4000000 in
theorem newProp_ac {f : Cnf} (hn : f.cls.length ≤ 40) (hw : ∀ c ∈ f.cls, c.length ≤ 1000) (hv : 0 ≤ f.vars ∧ f.vars ≤ 8000) (hc : ∀ c ∈ f.cls, ∀ l ∈ c, l ≠ 0 ∧ -f.vars ≤ l ∧ l ≤ f.vars) (σ : St) (G : Glob) (R : A → St → Prop)
    (h : ∀ σ' d occ tr op sa, Pg σ' d f occ tr op sa [] [] [] → tr.length = (2 * f.vars + 2).toNat → OccOk f occ → (∀ is ∈ occ, is.length ≤ 100000 ∧ ∀ i ∈ is, i < f.cls.length) → (∀ l, -f.vars ≤ l → l ≤ f.vars → l ≠ 0 → tr.getD (codeN l) false = false) →
      op = f.cls.map (fun c => ((opL [] c).length : Int)) → sa = f.cls.map (satB []) → (∀ i ∈ d.all, σ.length ≤ i) → (∀ id, id < σ.length → σ'[id]? = σ[id]?) → R (.ref d.ip 0) σ') : AC Try.prog G 56 [.d (cnfD f)] σ R := by
  refine ac_enterC' [7, 15, 16, 18] mixed Try.func56 rfl Try.ntmps56 (by simp only [go_sem]) fun hbd => ?_
  simp only [List.length_cons, List.length_nil, Nat.reduceAdd, Nat.reduceSub, List.replicate_succ, List.replicate_zero, List.cons_append, List.nil_append]
  obtain ⟨N, hN⟩ : ∃ N : Nat, (N : Int) = 2 * f.vars + 2 := ⟨(2 * f.vars + 2).toNat, by omega⟩
  have w1 : IntKind.i64.wrap (2 * f.vars) = 2 * f.vars := wrap64_id _ (by omega) (by omega)
  have w2 : IntKind.i64.wrap (2 * f.vars + 2) = (N : Int) := by rw [wrap64_id _ (by omega) (by omega), hN]
  have w3 : IntKind.i64.wrap (f.cls.length : Int) = (f.cls.length : Int) := wrap64_id _ (by omega) (by omega)
  simp only [cnfD, go_sem]
  obtain ⟨M, hM⟩ : ∃ M, f.cls.length = M := ⟨_, rfl⟩
  refine aw_plan (.tk 12 0 <| .done) (by kernel_rfl) ?_
  simp only [go_sem, w1, w2]
  refine ⟨⟨by omega, by omega, by omega, by omega⟩, ?_⟩
  refine aw_plan (.tk 12 0 <| .done) (by kernel_rfl) ?_
  simp only [go_sem, w1, w2]
  refine ⟨⟨by omega, by omega, by omega, by omega⟩, ?_⟩
  refine aw_plan (.tk 11 0 <| .done) (by kernel_rfl) ?_
  simp only [clsD, go_sem, List.length_map]
  refine ⟨⟨by omega, by omega, by omega, by omega⟩, ?_⟩
  refine aw_plan (.tk 11 0 <| .done) (by kernel_rfl) ?_
  simp only [go_sem, List.length_map]
  refine ⟨⟨by omega, by omega, by omega, by omega⟩, ?_⟩
  refine aw_cut (fun fr st => st = σ ++ [some (.cells [.d (iD f.vars), .d (clsD f.cls)]), some (.cells [.d (iD f.vars), .d (clsD f.cls), .rs (σ.length + 3) 1 0 N (some 4), .rs (σ.length + 4) 1 0 N (some 25), .rs (σ.length + 5) 1 0 f.cls.length (some 3), .rs (σ.length + 6) 1 0 f.cls.length (some 4), .d .nils, .d .nils, .d .nils]), some (.cells [.ref (σ.length + 1) 0]), bolsO (List.replicate N false),
    some (.cells (List.replicate N (.d .nils))), ints (List.replicate f.cls.length 0), bolsO (List.replicate f.cls.length false), ints (List.replicate N 0), some (.cells [.rs (σ.length + 7) 1 0 N (some 3)])] ∧ fr = [.any, .any, .any, .ref (σ.length + 2) 0, .ref (σ.length + 8) 0, .any, .any, .any, .any, .any, .any, .any, .any, .any, .any, .any, .any, .any, .any, .any, .any, .any, .any, .any, .any, .any, .any, .any, .any, .any, .any, .any, .any, .any, .any, .any, .any, .any, .any, .any, .any, .any, .any, .any, .any, .any, .any, .any, .any, .any, .any, .any, .any, .any, .any, .any, .any, .any, .any, .any, .any, .any, .any, .any, .any, .any, .any, .any, .any, .any, .any, .any, .any, .any, .any, .any, .any, .any, .any, .any, .any, .any, .any, .any, .any, .any, .any, .any, .any, .any, .any, .any, .any, .any, .any, .any, .any, .any, .any, .any, .any, .any, .any, .any, .any, .any, .any, .any, .any, .any, .any, .any, .any, .any, .any]) ?_ ?_
  · simp only [go_sem, w1, w2]
    refine ⟨⟨by omega, by omega, by omega, by omega⟩, ?_⟩
    simp only [List.flatten_replicate_singleton]
    exact Wk.mask [3, 4] ⟨by rw [ints, List.map_replicate, ints, List.map_replicate, bolsO, List.map_replicate, bolsO, List.map_replicate]; rfl, rfl⟩
  rintro fr st ⟨rfl, rfl⟩
  refine aw_cut (fun fr st => ∃ cs occ op la, Np st σ f N cs occ op la ∧ NI f f.cls.length 0 occ op la ∧ fr = [.any, .any, .any, .ref (σ.length + 2) 0, .any, .any, .any, .any, .any, .any, .any, .any, .any, .any, .any, .any, .any, .any, .any, .any, .any, .any, .any, .any, .any, .any, .any, .any, .any, .any, .any, .any, .any, .any, .any, .any, .any, .any, .any, .any, .any, .any, .any, .any, .any, .any, .any, .any, .any, .any, .any, .any, .any, .any, .any, .any, .any, .any, .any, .any, .any, .any, .any, .any, .any, .any, .any, .any, .any, .any, .any, .any, .any, .any, .any, .any, .any, .any, .any, .any, .any, .any, .any, .any, .any, .any, .any, .any, .any, .any, .any, .any, .any, .any, .any, .any, .any, .any, .any, .any, .any, .any, .any, .any, .any, .any, .any, .any, .any, .any, .any, .any, .any, .any, .any]) ?_ ?_
  · simp only [go_sem]
    obtain ⟨fr0, hfr0⟩ : ∃ fr0 : Fr, fr0 = [.any, .any, .any, .ref (σ.length + 2) 0, .ref (σ.length + 8) 0, .any, .any, .any, .any, .any, .any, .any, .any, .any, .any, .any, .any, .any, .any, .any, .any, .any, .any, .any, .any, .any, .any, .any, .any, .any, .any, .any, .any, .any, .any, .any, .any, .any, .any, .any, .any, .any, .any, .any, .any, .any, .any, .any, .any, .any, .any, .any, .any, .any, .any, .any, .any, .any, .any, .any, .any, .any, .any, .fn (.func 76) [.ref (σ.length + 1) 0] [], .any, .any, .any, .any, .any, .any, .any, .any, .any, .any, .any, .any, .any, .any, .any, .any, .any, .any, .any, .any, .any, .any, .any, .any, .any, .any, .any, .any, .any, .any, .any, .any, .any, .any, .any, .any, .any, .any, .any, .any, .any, .any, .any, .any, .any, .any, .any, .any, .any, .any, .any] := ⟨_, rfl⟩
    refine aw_range ⟨fr0, _, by rw [hfr0]; exact Weak.mask [3, 4, 63], by rw [hfr0]; simp [bdL, A.bd], 76, [.ref (σ.length + 1) 0], [], by rw [hfr0]; rfl, fun l r hY => ?_⟩
    have hlen : (σ ++ [some (.cells [.d (iD f.vars), .d (clsD f.cls)]), some (.cells [.d (iD f.vars), .d (clsD f.cls), .rs (σ.length + 3) 1 0 N (some 4), .rs (σ.length + 4) 1 0 N (some 25), .rs (σ.length + 5) 1 0 f.cls.length (some 3), .rs (σ.length + 6) 1 0 f.cls.length (some 4), .d .nils, .d .nils, .d .nils]), some (.cells [.ref (σ.length + 1) 0]), bolsO (List.replicate N false),
      some (.cells (List.replicate N (.d .nils))), ints (List.replicate f.cls.length 0), bolsO (List.replicate f.cls.length false), ints (List.replicate N 0), some (.cells [.rs (σ.length + 7) 1 0 N (some 3)])]).length = σ.length + 9 := by simp
    rw [hlen] at hY ⊢
    obtain ⟨s0, hs0⟩ : ∃ s0, (σ ++ [some (.cells [.d (iD f.vars), .d (clsD f.cls)]), some (.cells [.d (iD f.vars), .d (clsD f.cls), .rs (σ.length + 3) 1 0 N (some 4), .rs (σ.length + 4) 1 0 N (some 25), .rs (σ.length + 5) 1 0 f.cls.length (some 3), .rs (σ.length + 6) 1 0 f.cls.length (some 4), .d .nils, .d .nils, .d .nils]), some (.cells [.ref (σ.length + 1) 0]), bolsO (List.replicate N false),
      some (.cells (List.replicate N (.d .nils))), ints (List.replicate f.cls.length 0), bolsO (List.replicate f.cls.length false), ints (List.replicate N 0), some (.cells [.rs (σ.length + 7) 1 0 N (some 3)])]) ++ [some (.lp l r fr0)] = s0 := ⟨_, rfl⟩
    have hP0 : Np s0 σ f N (List.replicate N (.d .nils)) (List.replicate N []) (List.replicate f.cls.length 0) (List.replicate N 0) := by
      have g : ∀ {α : Type} (n c : Nat) (a d : α), c < n → (List.replicate n a).getD c d = a := fun n c a d h => by
        rw [List.getD_eq_getElem?_getD, List.getElem?_replicate, if_pos h]; rfl
      subst hs0
      refine ⟨?_, ?_, ?_, ?_, ?_, ?_, ?_, ?_, ?_, ⟨by simp, fun c hc => ?_, fun c c' j n n' e1 e2 => ?_⟩, fun id hid => ?_, by simp⟩
      any_goals (rw [List.append_assoc, List.getElem?_append_right (by omega)]; simp [ints, bolsO]; done)
      · rw [List.length_replicate] at hc; exact .inl ⟨g _ _ _ _ hc, g _ _ _ _ hc⟩
      · rw [List.getD_eq_getElem?_getD, List.getElem?_replicate] at e1; split at e1 <;> cases e1
      · rw [List.append_assoc, List.getElem?_append_left hid]
    have hr0 : s0[σ.length + 9]? = some (some (.lp l r fr0)) := by
      subst hs0
      rw [List.getElem?_append_right (by simp)]; simp
    rw [hs0]
    refine each_ac (by omega) (fun j st => ∃ cs occ op la, Np st σ f N cs occ op la ∧ NI f j 0 occ op la ∧ st[σ.length + 9]? = some (some (.lp l r fr0))) (fun _ => False) s0 hP0.p rfl ⟨_, _, _, _, hP0, NI.zero (by omega), hr0⟩ G (fun j st hj ⟨cs, occ, op, la, hP, hI, hrec⟩ => ?_) _ (fun r' st hst => ?_)
    · refine hY _ _ _ ⟨hrec, rfl, ?_⟩
      have hset : setPs fr0 [64, 65] [dn j, .d (isD (f.cls.getD j []))] = [.any, .any, .any, .ref (σ.length + 2) 0, .ref (σ.length + 8) 0, .any, .any, .any, .any, .any, .any, .any, .any, .any, .any, .any, .any, .any, .any, .any, .any, .any, .any, .any, .any, .any, .any, .any, .any, .any, .any, .any, .any, .any, .any, .any, .any, .any, .any, .any, .any, .any, .any, .any, .any, .any, .any, .any, .any, .any, .any, .any, .any, .any, .any, .any, .any, .any, .any, .any, .any, .any, .any, .fn (.func 76) [.ref (σ.length + 1) 0] [], dn j, .d (isD (f.cls.getD j [])), .any, .any, .any, .any, .any, .any, .any, .any, .any, .any, .any, .any, .any, .any, .any, .any, .any, .any, .any, .any, .any, .any, .any, .any, .any, .any, .any, .any, .any, .any, .any, .any, .any, .any, .any, .any, .any, .any, .any, .any, .any, .any, .any, .any, .any, .any, .any, .any, .any] := by rw [hfr0]; rfl
      rw [hset]
      obtain ⟨c, hce⟩ : ∃ c, f.cls.getD j [] = c := ⟨_, rfl⟩
      have hcm : c ∈ f.cls := hce ▸ getD_mem [] hj
      have hcl := hw c hcm
      have hlit := hc c hcm
      rw [hce]
      simp only [isD, go_sem, List.length_map]
      refine ⟨hrec, ?_⟩
      obtain ⟨s1, hs1⟩ : ∃ s1, st.set (σ.length + 9) (some (.lp l { r with state := .busy } fr0)) = s1 := ⟨_, rfl⟩
      rw [hs1]
      refine aw_loop (fun m fr st => ∃ (k : Nat) (cs : List A) (occ : List (List Nat)) (op la : List Int), k ≤ c.length ∧ m = c.length - k ∧ Np st σ f N cs occ op la ∧ NI f j k occ op la ∧ st[σ.length + 9]? = some (some (.lp l { r with state := .busy } fr0)) ∧ fr = [.any, .any, .any, .ref (σ.length + 2) 0, .ref (σ.length + 8) 0, dn j, .any, .any, .any, .any, .any, .any, .any, .any, .any, .any, .any, .any, .any, .any, .any, .any, .any, .any, .any, .any, .any, .any, .any, .any, .any, .any, .any, .any, .any, .any, .any, .any, .any, .any, .any, .any, .any, .any, .any, .any, .any, .any, .any, .any, .any, .any, .any, .any, .any, .any, .any, .any, .any, .any, .any, .any, .any, .any, .any, .any, .d (.sl 1 (c.map iD)), dn c.length, dn k, .any, .any, .any, .any, .any, .any, .any, .any, .any, .any, .any, .any, .any, .any, .any, .any, .any, .any, .any, .any, .any, .any, .any, .any, .any, .any, .any, .any, .any, .any, .any, .any, .any, .any, .any, .any, .any, .any, .any, .any, .any, .any, .any, .any, .any, .any]) c.length _
        (Wk.mask [3, 4, 5, 66, 67, 68] ⟨0, cs, occ, op, la, by omega, rfl, hs1 ▸ hP.rec9 _, hI, by rw [← hs1, List.getElem?_set, if_pos rfl, if_pos (lt_of_some hrec)], rfl⟩) ?_
      clear hP hI hrec hs1 s1
      rintro m fr s1 ⟨k, cs, occ, op, la, hk, hm, hP, hI, hrec, rfl⟩
      rcases Nat.lt_or_ge k c.length with klt | kge
      · have kd : decide ((k : Int) < (c.length : Int)) = true := by simp; omega
        have e2 : List.getD (List.map iD c) k default = iD (c.getD k 0) := getD_mapD klt
        have w4 := wrapS k (by omega)
        have w5 := wrapS j (by omega)
        have hlk := hlit _ (getD_mem 0 klt)
        have hlN : la.length = N := by have := hI.ll; omega
        have hcx : codeN (c.getD k 0) < N := by have := codeN_lt hv.1 hlk.2; omega
        simp only [go_sem, List.length_map, kd, e2]
        refine ⟨⟨by omega, by omega⟩, ?_⟩
        refine aw_plan (.take 1 <| .tk 2 5 <| .pure 2 <| .take 0 <| .tk 2 3 <| .take 7 <| .done) (by kernel_rfl) ?_
        simp only [go_sem, w5]
        refine exP (dn (codeN (c.getD k 0))) ⟨fun σ' => ?_, ?_⟩
        · simp only [go_sem]
          exact ac' (code_ac _ (by omega) _ _ _ ⟨rfl, rfl⟩)
        have e3 : List.getD (la.map fun x => A.d (iD x)) (codeN (c.getD k 0)) .any = A.d (iD (la.getD (codeN (c.getD k 0)) 0)) := getD_mapA (by omega)
        simp only [go_sem, objK_of hP.lb, live_of hP.lb, objK_of hP.la, live_of hP.la, Nat.mul_one, Nat.zero_add, List.length_map, e3, w4]
        refine ⟨⟨by omega, by omega⟩, by omega, fun hb => Wk.mask [3, 4, 5, 66, 67, 68] ⟨c.length - (k + 1), by omega, k + 1, cs, occ, op, la, klt, rfl, hP, ?_, hrec, rfl⟩, fun hb => ?_⟩
        · have := hI.skip (by rw [hce]; exact klt) ((hI.a2 _ (by rw [hce]; exact hlk.2.1) (by rw [hce]; exact hlk.2.2) (by rw [hce]; exact hlk.1)).1 ?_)
          · exact this
          · rw [hce]
            have := beq_iff_eq.1 hb
            omega
        have hnew := hI.add hj (by rw [hce]; exact klt) (fun hm => ?_) hv.1 (by rw [hce]; exact hlk)
        case refine_1 =>
          have := (hI.a2 _ (by rw [hce]; exact hlk.2.1) (by rw [hce]; exact hlk.2.2) (by rw [hce]; exact hlk.1)).2 hm
          rw [hce] at this
          rw [this] at hb
          simp at hb
        rw [hce] at hnew
        generalize c.getD k 0 = x at hlk hcx e2 e3 hb hnew ⊢
        have hoN : occ.length = N := by have := hI.lo; omega
        have lop := hI.lp
        have hoo : (occ.getD (codeN x) []).length ≤ f.cls.length := nodup_len (hI.a4 _).1 (hI.a4 _).2
        obtain ⟨la', hla'⟩ : ∃ la', la.set (codeN x) ((j : Int) + 1) = la' := ⟨_, rfl⟩
        obtain ⟨occ', hocc'⟩ : ∃ occ', occ.set (codeN x) (occ.getD (codeN x) [] ++ [j]) = occ' := ⟨_, rfl⟩
        rw [hla', hocc'] at hnew
        refine aw_cut (fun fr st => Np st σ f N cs occ op la' ∧ st[σ.length + 9]? = some (some (.lp l { r with state := .busy } fr0)) ∧ fr = [.any, .any, .any, .ref (σ.length + 2) 0, .ref (σ.length + 8) 0, dn j, .any, .any, di x, .any, .any, .any, .any, .any, .any, .any, .any, .any, .any, .any, .any, .any, .any, .any, .any, .any, .any, .any, .any, .any, .any, .any, .any, .any, .any, .any, .any, .any, .any, .any, .any, .any, .any, .any, .any, .any, .any, .any, .any, .any, .any, .any, .any, .any, .any, .any, .any, .any, .any, .any, .any, .any, .any, .any, .any, .any, .d (.sl 1 (c.map iD)), dn c.length, dn k, .any, .any, .any, .any, .any, .any, .any, .any, .any, .any, .any, .any, .any, .any, .any, .any, .any, .any, .any, .any, .any, .any, .any, .any, .any, .any, .any, .any, .any, .any, .any, .any, .any, .any, .any, .any, .any, .any, .any, .any, .any, .any, .any, .any, .any, .any]) ?_ ?_
        · refine aw_plan (.take 1 <| .tk 2 3 <| .pure 2 <| .take 0 <| .tk 2 5 <| .done) (by kernel_rfl) ?_
          simp only [go_sem, w5]
          refine exP (dn (codeN x)) ⟨fun σ' => ?_, ?_⟩
          · simp only [go_sem]
            exact ac' (code_ac _ (by omega) _ _ _ ⟨rfl, rfl⟩)
          simp only [go_sem, objK_of hP.lb, live_of hP.lb, objK_of hP.la, live_of hP.la, Nat.mul_one, Nat.zero_add, List.length_map]
          refine ⟨⟨by omega, by omega⟩, by omega, Wk.mask [3, 4, 5, 8, 66, 67, 68] ⟨?_, ?_, rfl⟩⟩
          · rw [splice_ints' _ (by omega), Int.natCast_add, Int.natCast_one, hla']
            exact hP.setLa la'
          · rw [List.getElem?_set_ne (by omega)]; exact hrec
        clear hP hrec s1
        rintro fr s1 ⟨hP, hrec, rfl⟩
        refine aw_cut (fun fr st => ∃ cs, Np st σ f N cs occ' op la' ∧ st[σ.length + 9]? = some (some (.lp l { r with state := .busy } fr0)) ∧ fr = [.any, .any, .any, .ref (σ.length + 2) 0, .ref (σ.length + 8) 0, dn j, .any, .any, .any, .any, .any, .any, .any, .any, .any, .any, .any, .any, .any, .any, .any, .any, .any, .any, .any, .any, .any, .any, .any, .any, .any, .any, .any, .any, .any, .any, .any, .any, .any, .any, .any, .any, .any, .any, .any, .any, .any, .any, .any, .any, .any, .any, .any, .any, .any, .any, .any, .any, .any, .any, .any, .any, .any, .any, .any, .any, .d (.sl 1 (c.map iD)), dn c.length, dn k, .any, .any, .any, .any, .any, .any, .any, .any, .any, .any, .any, .any, .any, .any, .any, .any, .any, .any, .any, .any, .any, .any, .any, .any, .any, .any, .any, .any, .any, .any, .any, .any, .any, .any, .any, .any, .any, .any, .any, .any, .any, .any, .any, .any, .any, .any]) ?_ ?_
        · refine aw_plan (.take 4 <| .take 10 <| .take 14 <| .pure 5 <| .pure 11 <| .tk 4 6 <| .tk 2 12 <| .alt 0 (.alt 1 (.alt 2 (.alt 3 (.tk 4 15 <| .done) <| .alt 15 (.alt 3 (.tk 3 16 <| .done) <| .alt 16 (.take 3 <| .tk 2 17 <| .done) <| .stop) <| .stop) <| .alt 15 (.alt 2 (.alt 3 (.tk 3 16 <| .done) <| .alt 16 (.take 3 <| .tk 2 17 <| .done) <| .stop) <| .alt 16 (.tk 2 2 <| .tk 2 17 <| .done) <| .stop) <| .stop) <| .alt 15 (.alt 1 (.alt 2 (.alt 3 (.tk 3 16 <| .done) <| .alt 16 (.take 3 <| .tk 2 17 <| .done) <| .stop) <| .alt 16 (.tk 2 2 <| .tk 2 17 <| .done) <| .stop) <| .alt 16 (.tk 3 1 <| .tk 2 17 <| .done) <| .stop) <| .stop) <| .alt 15 (.alt 0 (.alt 1 (.alt 2 (.alt 3 (.tk 3 16 <| .done) <| .alt 16 (.take 3 <| .tk 2 17 <| .done) <| .stop) <| .alt 16 (.tk 2 2 <| .tk 2 17 <| .done) <| .stop) <| .alt 16 (.tk 3 1 <| .tk 2 17 <| .done) <| .stop) <| .alt 16 (.tk 4 0 <| .tk 2 17 <| .done) <| .stop) <| .stop) (by kernel_rfl) ?_
          simp only [go_sem]
          refine exP (dn (codeN x)) ⟨fun σ' => ?_, ?_⟩
          · simp only [go_sem]
            exact ac' (code_ac _ (by omega) _ _ _ ⟨rfl, rfl⟩)
          simp only [go_sem]
          refine exP (dn (codeN x)) ⟨fun σ' => ?_, ?_⟩
          · simp only [go_sem]
            exact ac' (code_ac _ (by omega) _ _ _ ⟨rfl, rfl⟩)
          have l2 := lt_of_some hP.pb
          have l1 := lt_of_some hP.p
          have l4 := lt_of_some hP.oc
          have hcl := hP.tb.len
          have hlt : codeN x < cs.length := by omega
          rcases hP.tb.cell (codeN x) (by omega) with ⟨e4, e5⟩ | ⟨i, hi, e4, e5⟩
          · have hF : Np (s1.set (σ.length + 4) (some (.cells (cs.set (codeN x) (.rs (s1.length + 1) 1 0 1 (some 3))))) ++ [some (.cells [.d (iD j)]), some (.cells [.d (iD j)])]) σ f N (cs.set (codeN x) (.rs (s1.length + 1) 1 0 1 (some 3))) occ' op la' := by
              have := hP.step (st' := s1.set (σ.length + 4) (some (.cells (cs.set (codeN x) (.rs (s1.length + 1) 1 0 1 (some 3))))) ++ [some (.cells [.d (iD j)]), some (.cells [.d (iD j)])]) (op' := op) (la' := la') (c := codeN x) (id := s1.length + 1) (j := j) (by omega) (by omega) ?_ ?_ ?_ ?_ (fun i h1 h2 h3 h4 h5 => ?_) (by simp)
              · rw [hocc', e4] at this; exact this
              · rw [e4, List.getElem?_append_left (by simpa using l4), List.getElem?_set, if_pos rfl, if_pos l4]; rfl
              · rw [e4, List.getElem?_append_right (by simp)]; simp
              · rw [List.getElem?_append_left (by simpa using lt_of_some hP.op), List.getElem?_set_ne (by omega)]; exact hP.op
              · rw [List.getElem?_append_left (by simpa using lt_of_some hP.la), List.getElem?_set_ne (by omega)]; exact hP.la
              · rw [List.getElem?_append_left (by simpa using h1), List.getElem?_set_ne (by omega)]
            have hR : (s1.set (σ.length + 4) (some (.cells (cs.set (codeN x) (.rs (s1.length + 1) 1 0 1 (some 3))))) ++ [some (Ob.cells [.d (iD j)]), some (.cells [.d (iD j)])])[σ.length + 9]? = some (some (.lp l { r with state := .busy } fr0)) := by
              rw [List.getElem?_append_left (by simpa using lt_of_some hrec), List.getElem?_set_ne (by omega)]; exact hrec
            simp only [go_sem, objK_of hP.pb, live_of hP.pb, objK_of hP.p, live_of hP.p, objK_of hP.oc, live_of hP.oc, objK_apl, live_apl, set_apl, List.length_set, l2, l1, l4, e5, Nat.mul_one, Nat.zero_add, objK_apr, live_apr, Nat.le_refl, Nat.le_add_right, Nat.sub_self, Nat.add_sub_cancel_left, splice_one _ hlt]
            repeat' apply And.intro
            all_goals first
              | omega
              | (simp only [maxLen]; omega)
              | (exact Wk.mask [3, 4, 5, 66, 67, 68] ⟨_, hF, hR, rfl⟩)
              | skip
          · have li := lt_of_some e5
            have hne : i ≠ σ.length + 4 := by omega
            have hne1 : i ≠ σ.length + 1 := by omega
            have hne2 : i ≠ σ.length + 2 := by omega
            have hF : Np ((s1.set i none).set (σ.length + 4) (some (.cells (cs.set (codeN x) (.rs (s1.length + 1) 1 0 ((occ.getD (codeN x) []).length + 1) (some 3))))) ++ [some (.cells [.d (iD j)]), some (.cells ((occ.getD (codeN x) []).map (fun n : Nat => A.d (iD n)) ++ [.d (iD j)]))]) σ f N (cs.set (codeN x) (.rs (s1.length + 1) 1 0 ((occ.getD (codeN x) []).length + 1) (some 3))) occ' op la' := by
              have := hP.step (st' := (s1.set i none).set (σ.length + 4) (some (.cells (cs.set (codeN x) (.rs (s1.length + 1) 1 0 ((occ.getD (codeN x) []).length + 1) (some 3))))) ++ [some (.cells [.d (iD j)]), some (.cells ((occ.getD (codeN x) []).map (fun n : Nat => A.d (iD n)) ++ [.d (iD j)]))]) (op' := op) (la' := la') (c := codeN x) (id := s1.length + 1) (j := j) (by omega) (by omega) ?_ ?_ ?_ ?_ (fun i h1 h2 h3 h4 h5 => ?_) (by simp)
              · rw [hocc'] at this; exact this
              · rw [List.getElem?_append_left (by simpa using l4), List.getElem?_set, if_pos rfl, if_pos (by simpa using l4)]
              · rw [List.getElem?_append_right (by simp)]; simp [natsO]
              · rw [List.getElem?_append_left (by simpa using lt_of_some hP.op), List.getElem?_set_ne (by omega), List.getElem?_set_ne (by omega)]; exact hP.op
              · rw [List.getElem?_append_left (by simpa using lt_of_some hP.la), List.getElem?_set_ne (by omega), List.getElem?_set_ne (by omega)]; exact hP.la
              · rw [List.getElem?_append_left (by simpa using h1), List.getElem?_set_ne (by omega), List.getElem?_set_ne]
                rintro rfl
                exact h5 _ e4
            have hR : ((s1.set i none).set (σ.length + 4) (some (.cells (cs.set (codeN x) (.rs (s1.length + 1) 1 0 ((occ.getD (codeN x) []).length + 1) (some 3))))) ++ [some (Ob.cells [.d (iD j)]), some (.cells ((occ.getD (codeN x) []).map (fun n : Nat => A.d (iD n)) ++ [.d (iD j)]))])[σ.length + 9]? = some (some (.lp l { r with state := .busy } fr0)) := by
              rw [List.getElem?_append_left (by simpa using lt_of_some hrec), List.getElem?_set_ne (by omega), List.getElem?_set_ne (by omega)]; exact hrec
            simp only [go_sem, objK_of hP.pb, live_of hP.pb, objK_of hP.p, live_of hP.p, objK_of hP.oc, live_of hP.oc, objK_of e5, live_of e5, objK_apl, live_apl, set_apl, List.length_set, l2, l1, l4, li, e4, objK_ne hne, live_ne hne, objK_ne hne1, live_ne hne1, objK_ne hne2, live_ne hne2, Nat.mul_one, Nat.zero_add, objK_apr, live_apr, Nat.le_refl, Nat.le_add_right, Nat.sub_self, Nat.add_sub_cancel_left, List.length_map, splice_one _ hlt]
            repeat' apply And.intro
            all_goals first
              | omega
              | (simp only [maxLen]; omega)
              | (exact Wk.mask [3, 4, 5, 66, 67, 68] ⟨_, hF, hR, rfl⟩)
              | skip
        clear hP hrec s1
        rintro fr s1 ⟨cs, hP, hrec, rfl⟩
        have e3 : List.getD (op.map fun x => A.d (iD x)) j .any = A.d (iD (op.getD j 0)) := getD_mapA (by omega)
        simp only [go_sem, objK_of hP.pb, live_of hP.pb, objK_of hP.p, live_of hP.p, objK_of hP.op, live_of hP.op, List.length_map, e3, w4, Nat.mul_one, Nat.zero_add]
        have hob : op.getD j 0 ≤ 1000 ∧ 0 ≤ op.getD j 0 := by
          have h1 := hI.b3
          have := opL_len (T := []) (c := (f.cls.getD j []).take k)
          rw [List.length_take, hce] at this
          rw [hce] at h1
          omega
        have w6 : IntKind.i64.wrap (op.getD j 0 + 1) = op.getD j 0 + 1 := wrap64_id _ (by omega) (by omega)
        rw [w6, splice_ints' _ (by omega)]
        refine ⟨⟨by omega, by omega⟩, by omega, ⟨by omega, by omega⟩, by omega, Wk.mask [3, 4, 5, 66, 67, 68] ⟨c.length - (k + 1), by omega, k + 1, cs, occ', _, la', klt, rfl, hP.setOp _, hnew, by rw [List.getElem?_set_ne (by omega)]; exact hrec, rfl⟩⟩
      · have kd : decide ((k : Int) < (c.length : Int)) = false := by simp; omega
        simp only [go_sem, List.length_map, kd]
        exact ⟨s1, Weak.refl _ _ _ _, hrec, .inl ⟨rfl, cs, occ, op, la, hP.rec9 _, hI.next (by rw [hce]; exact kge), by rw [List.getElem?_set, if_pos rfl, if_pos (lt_of_some hrec)]⟩⟩
    · rcases hst with ⟨cs, occ, op, la, hP, hI, hrec⟩ | hst
      · refine .inl ⟨hrec, fr0, _, Weak.refl _ _ _ _, ?_⟩
        rw [hfr0]
        simp only [go_sem]
        exact Wk.mask [3] ⟨cs, occ, op, la, hP.rec9 none, hI, rfl⟩
      · exact hst.elim
  rintro fr st ⟨cs, occ, op, la, hP, hI, rfl⟩
  obtain ⟨σ', d, hw', hPg, hge, hpre⟩ := hP.fin (G := G) (by have := hI.lo; omega) hI.lp
  obtain ⟨k1, k2, k3⟩ := hI.ok
  have hsat : List.replicate f.cls.length false = f.cls.map (satB []) := by
    refine List.ext_getElem? fun k => ?_
    rw [List.getElem?_map, List.getElem?_replicate]
    split
    · rename_i hk
      rw [List.getElem?_eq_getElem hk]
      simp [satB]
    · rw [List.getElem?_eq_none (by omega)]; rfl
  simp only [go_sem, objK_of hP.pb, Try.results56]
  exact ⟨_, _, hw', h σ' d occ _ op _ hPg (by rw [List.length_replicate]; omega) k1 (fun is his => ⟨by have := (k2 is his).1; omega, (k2 is his).2⟩) (fun l _ _ _ => by rw [List.getD_eq_getElem?_getD, List.getElem?_replicate]; split <;> rfl) k3 hsat hge hpre⟩
end Go.Proofs.Ytpmjdaiboniagaa
end PartU10

section PartU12
/- usable. -/
set_option linter.unusedSimpArgs false
set_option linter.unusedVariables false
set_option maxRecDepth 100000
namespace Go.Proofs.Ytpmjdaiboniagaa
open Go Go.Ab

/-- The literals are literals, and no two of them differ. -/
def litsOk (v : Int) : List Int → List Int → Bool
  | _, [] => true
  | S, l :: ls => if l = 0 ∨ l > v ∨ l < -v ∨ -l ∈ S then false else litsOk v (l :: S) ls
/-- The array of what is assumed. -/
def trOf (v : Int) (tr : List Bool) (S : List Int) : Prop := tr.length = (2 * v + 2).toNat ∧ ∀ l, -v ≤ l → l ≤ v → l ≠ 0 → tr.getD (codeN l) false = decide (l ∈ S)
theorem trOf.zero (v : Int) {N : Nat} (h : N = (2 * v + 2).toNat) : trOf v (List.replicate N false) [] :=
  ⟨by simp [h], fun l _ _ _ => by rw [List.getD_eq_getElem?_getD, List.getElem?_replicate]; split <;> simp⟩
theorem trOf.set {v : Int} {tr : List Bool} {S : List Int} (h : trOf v tr S) {x : Int} (hv : 0 ≤ v) (hx : -v ≤ x ∧ x ≤ v) : trOf v (tr.set (codeN x) true) (x :: S) := by
  refine ⟨by simp [h.1], fun l p q r => ?_⟩
  rw [gset (by rw [h.1]; exact codeN_lt hv hx)]
  by_cases e : codeN l = codeN x
  · rw [if_pos e, codeN_inj e (.inr trivial)]; simp
  · rw [if_neg e, h.2 l p q r]
    have : l ≠ x := fun k => e (by rw [k])
    simp [this]
set_option maxHeartbeats 4000000 in
theorem usable_ac (f : Cnf) (lits : List Int) (hf : I64 f.vars) (hn : f.cls.length ≤ reachBytes) (hc : ∀ c ∈ f.cls, c.length ≤ reachBytes) (hll : lits.length ≤ reachBytes) (hl : ∀ l ∈ lits, I64 l) (σ : St) (G : Glob) (R : A → St → Prop) (h : R (db (validC f && litsOk f.vars [] lits)) σ) : AC Try.prog G 55 [.d (cnfD f), .d (isD lits)] σ R := by
  refine ac_enter mixed Try.func55 rfl Try.ntmps55 (by simp only [go_sem]) fun hbd => ?_
  simp only [List.length_cons, List.length_nil, Nat.reduceAdd, Nat.reduceSub, List.replicate_succ, List.replicate_zero, List.cons_append, List.nil_append]
  simp only [cnfD, go_sem]
  refine ac' (cvalid_ac f hf hn hc _ _ _ ?_)
  simp only [isD, go_sem, Try.results55]
  refine ⟨fun hb => ret_d hbd (by rw [show validC f = false by simpa using hb] at h; exact h), fun hb => ?_⟩
  replace hb : validC f = true := by simpa using hb
  rw [hb, Bool.true_and] at h
  have hv : 0 ≤ f.vars ∧ f.vars ≤ 8000 := by
    simp only [validC, Bool.and_eq_true, Bool.not_eq_true', Bool.or_eq_false_iff, decide_eq_false_iff_not] at hb
    omega
  obtain ⟨N, hN⟩ : ∃ N : Nat, (N : Int) = 2 * f.vars + 2 := ⟨(2 * f.vars + 2).toNat, by omega⟩
  have w1 : IntKind.i64.wrap (2 * f.vars) = 2 * f.vars := wrap64_id _ (by omega) (by omega)
  have w2 : IntKind.i64.wrap (2 * f.vars + 2) = (N : Int) := by rw [wrap64_id _ (by omega) (by omega), hN]
  have w3 : IntKind.i64.wrap (0 - f.vars) = -f.vars := by rw [wrap64_id _ (by omega) (by omega)]; omega
  simp only [go_sem, w1, w2, List.length_map, List.flatten_replicate_singleton]
  refine ⟨⟨by omega, by omega, by omega, by omega⟩, ?_⟩
  refine aw_loop (fun m fr st => ∃ (k : Nat) (tr : List Bool) (S : List Int), k ≤ lits.length ∧ m = lits.length - k ∧ trOf f.vars tr S ∧ R (db (litsOk f.vars S (lits.drop k))) σ ∧ fr = [.any, .any, .ref σ.length 0, .any, .any, .rs (σ.length + 1) 1 0 N (some 4), .any, .any, .any, .any, .any, .any, .any, .any, .any, .any, .d (.sl 1 (lits.map iD)), dn lits.length, dn k, .any, .any, .any, .any, .any, .any, .any, .any, .any, .any, .any, .any, .any, .any, .any, .any, .any, .any, .any, .any, .any, .any, .any, .any, .any, .any, .any, .any, .any, .any, .any] ∧ st = σ ++ [some (.cells [.d (iD f.vars), .d (clsD f.cls)]), bolsO tr]) lits.length _
    (Wk.mask [2, 5, 16, 17, 18] ⟨0, List.replicate N false, [], by omega, rfl, trOf.zero _ (by omega), h, rfl, by rw [bolsO, List.map_replicate]⟩) ?_
  rintro m fr st ⟨k, tr, S, hk, hm, hT, hR, rfl, rfl⟩
  rcases Nat.lt_or_ge k lits.length with klt | kge
  · have kd : decide ((k : Int) < (lits.length : Int)) = true := by simp; omega
    have e2 : List.getD (List.map iD lits) k default = iD (lits.getD k 0) := getD_mapD klt
    have w4 := wrapS k (by simp only [reachBytes] at hll; omega)
    have hlk := hl _ (getD_mem 0 klt)
    rw [drop_getD 0 klt, litsOk] at hR
    generalize lits.getD k 0 = x at e2 hR hlk
    simp only [go_sem, List.length_map, kd, e2, w3]
    refine ⟨⟨by omega, by omega⟩, ex' (.int .i64 (codeN (-x))) ⟨fun hg => ?_, ?_⟩⟩
    · have hg0 := hg
      simp only [Bool.not_eq_true', Bool.or_eq_false_iff, beq_eq_false_iff_ne, decide_eq_false_iff_not] at hg
      have w5 : IntKind.i64.wrap (0 - x) = -x := by rw [wrap64_id _ (by omega) (by omega)]; omega
      simp only [go_sem, w5]
      exact ⟨hg0, ac' (code_ac _ (by omega) _ _ _ ⟨rfl, rfl⟩)⟩
    have e1 := hT.1
    rcases hgc : (x == 0 || decide (f.vars < x) || decide (x < -f.vars)) with _ | _
    · have hg := hgc
      simp only [Bool.or_eq_false_iff, beq_eq_false_iff_ne, decide_eq_false_iff_not] at hg
      have w5 : IntKind.i64.wrap (0 - x) = -x := by rw [wrap64_id _ (by omega) (by omega)]; omega
      have c1 : codeN (-x) < tr.length := by rw [e1]; exact codeN_lt (by omega) (by omega)
      have c2 : codeN x < tr.length := by rw [e1]; exact codeN_lt (by omega) (by omega)
      have e3 : List.getD (tr.map fun x => A.d (.bool x)) (codeN (-x)) .any = A.d (.bool (tr.getD (codeN (-x)) false)) := getD_mapB c1
      have e4 := hT.2 (-x) (by omega) (by omega) (by omega)
      simp only [go_sem, hgc, w4, w5, e3, Nat.mul_one, List.length_map, Try.results55]
      refine ⟨⟨by omega, by omega⟩, c1, fun he => ret_d hbd ?_, fun he => ac' (code_ac _ (by omega) _ _ _ ?_)⟩
      · rw [he] at e4
        rw [if_pos (.inr (.inr (.inr (of_decide_eq_true e4.symm))))] at hR
        exact hR
      rw [he] at e4
      have e5 := of_decide_eq_false e4.symm
      rw [if_neg (by rintro (k | k | k | k); exact hg.1.1 k; exact hg.1.2 k; exact hg.2 k; exact e5 k)] at hR
      simp only [go_sem, w4, Nat.mul_one, List.length_map]
      refine ⟨⟨by omega, by omega⟩, c2, Wk.mask [2, 5, 16, 17, 18] ⟨lits.length - (k + 1), by omega, k + 1, tr.set (codeN x) true, x :: S, klt, rfl, hT.set hv.1 (by omega), hR, rfl, ?_⟩⟩
      rw [splice_bools true c2]
    · simp only [go_sem, hgc, w4, Try.results55]
      refine ret_d hbd ?_
      simp only [Bool.or_eq_true, beq_iff_eq, decide_eq_true_eq] at hgc
      have hor : x = 0 ∨ x > f.vars ∨ x < -f.vars ∨ -x ∈ S := hgc.elim (fun k => k.elim .inl fun k => .inr (.inl k)) fun k => .inr (.inr (.inl k))
      rw [if_pos hor] at hR
      exact hR
  · have kd : decide ((k : Int) < (lits.length : Int)) = false := by simp; omega
    simp only [go_sem, List.length_map, kd, Try.results55]
    rw [List.drop_eq_nil_of_le kge] at hR
    exact ret_d hbd hR
end Go.Proofs.Ytpmjdaiboniagaa
end PartU12

section PartU13
/- Propagate. -/
set_option linter.unusedSimpArgs false
set_option linter.unusedVariables false
set_option maxRecDepth 100000
namespace Go.Proofs.Ytpmjdaiboniagaa
open Go Go.Ab

theorem litsOk_spec {v : Int} : ∀ {ls S : List Int}, litsOk v S ls = true → ∀ l ∈ ls, l ≠ 0 ∧ -v ≤ l ∧ l ≤ v ∧ -l ∉ S ∧ -l ∉ ls
  | [], _, _, l, hl => by cases hl
  | x :: ls, S, h, l, hl => by
    rw [litsOk] at h
    split at h
    · cases h
    · rename_i hn
      rw [not_or, not_or, not_or] at hn
      obtain ⟨n1, n2, n3, n4⟩ := hn
      have ih := litsOk_spec h
      have hx : -x ∉ ls := fun hm => (ih _ hm).2.2.2.1 (by simp)
      rcases List.mem_cons.1 hl with rfl | hl
      · refine ⟨n1, by omega, by omega, n4, fun hm => ?_⟩
        rcases List.mem_cons.1 hm with e | hm
        · omega
        · exact hx hm
      · obtain ⟨a, b, c, d, e⟩ := ih l hl
        rw [List.mem_cons, not_or] at d
        exact ⟨a, b, c, d.2, fun hm => (List.mem_cons.1 hm).elim d.1 e⟩
theorem validC_spec {f : Cnf} (h : validC f = true) : (0 ≤ f.vars ∧ f.vars ≤ 8000) ∧ ∀ c ∈ f.cls, ∀ l ∈ c, l ≠ 0 ∧ -f.vars ≤ l ∧ l ≤ f.vars := by
  simp only [validC, Bool.and_eq_true, Bool.not_eq_true', Bool.or_eq_false_iff, decide_eq_false_iff_not] at h
  obtain ⟨h1, h2⟩ := h
  refine ⟨by omega, fun c hc l hl => ?_⟩
  have := List.all_eq_true.1 (List.all_eq_true.1 h2 c hc) l hl
  simp only [litOk, Bool.not_eq_true', Bool.or_eq_false_iff, beq_eq_false_iff_ne, decide_eq_false_iff_not] at this
  omega
/-- What Propagate answers. -/
def propS (f : Cnf) (lits : List Int) : List Int × List Int × Int :=
  if (validC f && litsOk f.vars [] lits) = true then runS f.cls (f.vars + 1).toNat (initT [] lits) ((initT [] lits).map fun _ => -1) else ([], [], -2)
theorem Weak.tup {G : Glob} {n0 : Nat} {xs ys : List A} {s s' : St} (h : Weak G n0 xs s ys s') : Weak G n0 [.tup xs] s [.tup ys] s' := fun ρ0 w0 ρ w vs h0 hx hI hr => by
  match vs, hr with
  | [v], hr =>
    have hv := hr.2 0 _ v rfl rfl
    cases hv with
    | tup _ us len rep =>
      obtain ⟨ρ', a, b, c⟩ := h ρ0 w0 ρ w us h0 hx hI ⟨len, rep⟩
      refine ⟨ρ', a, b, rfl, fun i x u hi hu => ?_⟩
      match i with
      | 0 => simp at hi hu; subst hi; subst hu; exact .tup _ us c.1 c.2
      | i + 1 => simp at hi
  | [], hr => exact absurd hr.1 (by simp)
  | _ :: _ :: _, hr => exact absurd hr.1 (by simp)
/-- Two slices of one's own are read as data; the rest is forgotten. -/
theorem Weak.two {G : Glob} {σ st : St} {iT iR : Nat} {T Rs : List Int} {w w' : Option TypeId} (hbd : Bd σ.length σ) (hpre : ∀ id, id < σ.length → st[id]? = σ[id]?) (hl : σ.length ≤ st.length) (h1 : σ.length ≤ iT) (h2 : σ.length ≤ iR) (hT : st[iT]? = some (ints T)) (hR : st[iR]? = some (ints Rs)) (c : Int) :
    Weak G σ.length [.rs iT 1 0 T.length w, .rs iR 1 0 Rs.length w', di c] st [.d (isD T), .d (isD Rs), di c] σ := by
  obtain ⟨l, rfl⟩ : ∃ l, st = σ ++ l := ⟨st.drop σ.length, by
    refine List.ext_getElem? fun k => ?_
    rcases Nat.lt_or_ge k σ.length with h | h
    · rw [hpre k h, List.getElem?_append_left h]
    · rw [List.getElem?_append_right h, List.getElem?_drop]; congr 1; omega⟩
  obtain ⟨a, rfl⟩ : ∃ a, iT = σ.length + a := ⟨iT - σ.length, by omega⟩
  obtain ⟨b, rfl⟩ : ∃ b, iR = σ.length + b := ⟨iR - σ.length, by omega⟩
  rw [List.getElem?_append_right (by omega), Nat.add_sub_cancel_left] at hT hR
  have key : ∀ {k : Nat} {xs : List Int} {w : Option TypeId}, l[k]? = some (ints xs) → [a, b].contains k = true → dpA σ.length [a, b] l 2 (.rs (σ.length + k) 1 0 xs.length w) = .d (isD xs) := fun {k xs w} hk hJ => by
    rw [dpA_rs, dpD, ownC_add, if_pos hJ, List.getD_eq_getElem?_getD, hk, Option.getD_some, ints]
    simp only
    rw [Option.bind_some, Nat.mul_one, List.drop_zero, List.take_of_length_le (by simp), dpL_d, Option.bind_some, if_pos (by simp), oneAll, if_pos (by simp [List.all_eq_true, D.one])]
    rfl
  have w1 := Weak.deep (G := G) (n0 := σ.length) (fr := [.rs (σ.length + a) 1 0 T.length w, .rs (σ.length + b) 1 0 Rs.length w', di c]) (σ := σ) (l := l) [a, b] 2
  simp only [List.map_cons, List.map_nil, key hT (by simp), key hR (by simp), dpA_d] at w1
  exact w1.trans (Weak.cut (Nat.le_refl _) hbd (by simp [bdL, A.bd]))
set_option maxHeartbeats 4000000 in
theorem propagate_ac (f : Cnf) (lits : List Int) (hf : I64 f.vars) (hn : f.cls.length ≤ 40) (hw : ∀ c ∈ f.cls, c.length ≤ 1000) (hll : lits.length ≤ reachBytes) (hl : ∀ l ∈ lits, I64 l) (σ : St) (G : Glob) (R : A → St → Prop)
    (h : R (.tup [.d (isD (propS f lits).1), .d (isD (propS f lits).2.1), di (propS f lits).2.2]) σ) : AC Try.prog G 21 [.d (cnfD f), .d (isD lits)] σ R := by
  refine ac_enter mixed Try.func21 rfl Try.ntmps21 (by simp only [go_sem]) fun hbd => ?_
  simp only [List.length_cons, List.length_nil, Nat.reduceAdd, Nat.reduceSub, List.replicate_succ, List.replicate_zero, List.cons_append, List.nil_append]
  simp only [cnfD, go_sem]
  refine ac' (usable_ac f lits hf (by simp only [reachBytes]; omega) (fun c hc => by have := hw c hc; simp only [reachBytes]; omega) hll hl _ _ _ ?_)
  simp only [go_sem, Try.results21]
  unfold propS at h
  refine ⟨fun hb => ?_, fun hb => ?_⟩
  · rw [if_neg (fun e => by rw [e] at hb; simp at hb)] at h
    refine ⟨_, _, (Weak.tup (Weak.nils (.cons (.d (.nil 1)) (.cons (.d (.nil 1)) (NilAL.refl _))))).trans (Weak.cut (Nat.le_refl _) hbd (by simp [bdL, A.bd])), h⟩
  · replace hb : (validC f && litsOk f.vars [] lits) = true := by simpa using hb
    rw [if_pos hb] at h
    rw [Bool.and_eq_true] at hb
    obtain ⟨hv, hcl⟩ := validC_spec hb.1
    have hls := litsOk_spec hb.2
    refine ac' (newProp_ac hn hw hv hcl _ _ _ fun σ1 d occ tr op sa hP ht ho hoa htr hop hsa hge hpre => ?_)
    simp only [go_sem]
    refine ac' (run_ac lits hn hw hv hcl hll (fun l hl => ⟨(hls l hl).1, (hls l hl).2.1, (hls l hl).2.2.1, (hls l hl).2.2.2.2⟩) ht ho hoa htr hop hsa _ hP _ _ fun σ2 d' tr' op' sa' q' hS hP' ht' hK => ?_)
    generalize runS f.cls (f.vars + 1).toNat (initT [] lits) ((initT [] lits).map fun _ => -1) = r at h hP' ⊢
    have hip : d'.ip = d.ip := hS.ip
    have hc' := hP'.c
    rw [hip] at hc'
    simp only [pgCells] at hc'
    simp only [go_sem]
    simp only [objK_of hc', live_of hc', go_sem, Try.results21]
    have hlen : (σ ++ [some (Ob.cells [.d (iD f.vars), .d (clsD f.cls)])]).length = σ.length + 1 := by simp
    obtain ⟨s1, s2, s3, s4, s5, s6, s7⟩ := hS
    have hge' := hge
    have hlt := hP.lt
    simp only [Ids.all, List.mem_cons, List.not_mem_nil, or_false] at hge' hlt
    have g1 := hge' d.iT (by simp)
    have g2 := hge' d.iR (by simp)
    have g3 := hlt d.iT (by simp)
    have g4 := hK.1
    rw [hlen] at g1 g2
    refine ⟨_, _, Weak.tup (Weak.two (T := r.1) (Rs := r.2.1) (iT := d'.iT) (iR := d'.iR) hbd (fun id hid => ?_) (by omega) (by omega) (by omega) hP'.T hP'.R r.2.2), h⟩
    rw [hK.2 id (by omega) (fun hm => by have := hge id hm; omega), hpre id (by omega), List.getElem?_append_left hid]
end Go.Proofs.Ytpmjdaiboniagaa
end PartU13

section PartU14
/- needed$1; needed. -/
set_option linter.unusedSimpArgs false
set_option linter.unusedVariables false
set_option maxRecDepth 100000
namespace Go.Proofs.Ytpmjdaiboniagaa
open Go Go.Ab

/-- The literals that a clause's falsity asks for. -/
def wantW : List Int → List Int → List Int
  | W, [] => W
  | W, l :: c => wantW (-l :: W) c
theorem mem_wantW : ∀ {c W : List Int} {x : Int}, x ∈ wantW W c ↔ x ∈ W ∨ -x ∈ c
  | [], W, x => by simp [wantW]
  | l :: c, W, x => by
    rw [wantW, mem_wantW, List.mem_cons, List.mem_cons]
    have : x = -l ↔ -x = l := by omega
    rw [this]
    constructor
    · rintro ((a | a) | a)
      · exact .inr (.inl a)
      · exact .inl a
      · exact .inr (.inr a)
    · rintro (a | a | a)
      · exact .inl (.inr a)
      · exact .inl (.inl a)
      · exact .inr a
theorem want_ac {d : Ids} {f : Cnf} {cells : List A} {bp bw iw N r : Nat} {W : List Int} {wb : List Bool} (hv : 0 ≤ f.vars ∧ f.vars ≤ 8000) (hr : r < f.cls.length) (hn : f.cls.length ≤ 40) (hw : ∀ c ∈ f.cls, c.length ≤ 1000) (hc : ∀ c ∈ f.cls, ∀ l ∈ c, l ≠ 0 ∧ -f.vars ≤ l ∧ l ≤ f.vars) (σ : St)
    (hbp : σ[bp]? = some (some (.cells [.ref d.ip 0]))) (hp : σ[d.ip]? = some (some (.cells cells))) (hp1 : cells[1]? = some (.d (clsD f.cls))) (hbw : σ[bw]? = some (some (.cells [.rs iw 1 0 N (some 4)]))) (hiw : σ[iw]? = some (bolsO wb)) (hne : iw ≠ bw) (hN : N = (2 * f.vars + 2).toNat) (hT : trOf f.vars wb W) (G : Glob) (R : A → St → Prop)
    (h : ∀ wb', trOf f.vars wb' (wantW W (f.cls.getD r [])) → R (.tup []) (σ.set iw (bolsO wb'))) : AC Try.prog G 82 [dn r, .ref bp 0, .ref bw 0] σ R := by
  refine ac_enter' mixed Try.func82 rfl Try.ntmps82 (by simp only [go_sem]) fun hbd => ?_
  simp only [List.length_cons, List.length_nil, Nat.reduceAdd, Nat.reduceSub, List.replicate_succ, List.replicate_zero, List.cons_append, List.nil_append]
  have e0 : List.getD cells 1 .any = .d (.sl 1 (f.cls.map isD)) := getD_opt hp1
  have hl1 : 1 < cells.length := (List.getElem?_eq_some_iff.1 hp1).1
  have e1 := isD_getD hr
  have hcr := hw _ (getD_mem [] hr)
  have hlit := hc _ (getD_mem [] hr)
  obtain ⟨c, hce⟩ : ∃ c, f.cls.getD r [] = c := ⟨_, rfl⟩
  rw [hce] at e1 hcr hlit h
  simp only [go_sem, objK_of hbp, live_of hbp, objK_of hp, live_of hp, e0, e1, List.length_map]
  refine ⟨by simpa using hl1, ⟨by omega, by omega⟩, ?_⟩
  refine aw_loop (fun m fr st => ∃ (k : Nat) (wb' : List Bool) (W' : List Int), k ≤ c.length ∧ m = c.length - k ∧ trOf f.vars wb' W' ∧ wantW W' (c.drop k) = wantW W c ∧ fr = [.any, .ref bp 0, .ref bw 0, .any, .any, .any, .any, .any, .any, .any, .any, .any, .any, .d (.sl 1 (c.map iD)), dn c.length, dn k, .any, .any, .any, .any, .any, .any, .any, .any, .any] ∧ st = σ.set iw (bolsO wb')) c.length _
    (Wk.mask [1, 2, 13, 14, 15] ⟨0, wb, W, by omega, rfl, hT, rfl, rfl, (set_same hiw).symm⟩) ?_
  rintro m fr st ⟨k, wb', W', hk, hm, hT', hW, rfl, rfl⟩
  have hlen' := hT'.1
  rcases Nat.lt_or_ge k c.length with klt | kge
  · have kd : decide ((k : Int) < (c.length : Int)) = true := by simp; omega
    have e2 : List.getD (List.map iD c) k default = iD (c.getD k 0) := getD_mapD klt
    have w3 := wrapS k (by omega)
    have hlk := hlit _ (getD_mem 0 klt)
    rw [drop_getD 0 klt, wantW] at hW
    generalize c.getD k 0 = x at e2 hW hlk
    have w4 : IntKind.i64.wrap (0 - x) = -x := by rw [wrap64_id _ (by omega) (by omega)]; omega
    have hcx : codeN (-x) < wb'.length := by rw [hlen']; exact codeN_lt (by omega) (by omega)
    have hbw' : (σ.set iw (bolsO wb'))[bw]? = some (some (.cells [.rs iw 1 0 N (some 4)])) := by rw [List.getElem?_set_ne hne]; exact hbw
    have hiw' : (σ.set iw (bolsO wb'))[iw]? = some (bolsO wb') := by rw [List.getElem?_set, if_pos rfl, if_pos (lt_of_some hiw)]
    simp only [go_sem, List.length_map, kd, e2]
    refine ⟨⟨by omega, by omega⟩, ?_⟩
    refine aw_plan (.tk 2 1 <| .pure 3 <| .take 0 <| .tk 2 4 <| .done) (by kernel_rfl) ?_
    simp only [go_sem, w4]
    refine exP (dn (codeN (-x))) ⟨fun σ' => ?_, ?_⟩
    · simp only [go_sem]
      exact ac' (code_ac _ (by omega) _ _ _ ⟨rfl, rfl⟩)
    simp only [go_sem, objK_of hbw', live_of hbw', objK_of hiw', live_of hiw', Nat.mul_one, Nat.zero_add, List.length_map, w3]
    refine ⟨⟨by omega, by omega⟩, by omega, Wk.mask [1, 2, 13, 14, 15] ⟨c.length - (k + 1), by omega, k + 1, wb'.set (codeN (-x)) true, -x :: W', klt, rfl, hT'.set hv.1 (by omega), hW, rfl, ?_⟩⟩
    rw [splice_bools true hcx, List.set_set]
  · have kd : decide ((k : Int) < (c.length : Int)) = false := by simp; omega
    rw [List.drop_eq_nil_of_le kge, wantW] at hW
    simp only [go_sem, List.length_map, kd, Try.results82]
    exact ⟨_, _, Weak.refl _ _ _ _, h _ (hW ▸ hT')⟩
/-- The clauses that a conflict leans on, last first. -/
def needS (cls : List (List Int)) : List Int → List Int → List (Int × Int) → List Int
  | _, acc, [] => acc
  | W, acc, (l, r) :: ps => if 0 ≤ r ∧ l ∈ W then needS cls (wantW W (cls.getD r.toNat [])) (if r ∈ acc then acc else acc ++ [r]) ps else needS cls W acc ps
set_option maxHeartbeats 4000000 in
theorem needed_ac {d : Ids} {f : Cnf} {occ : List (List Nat)} {tr : List Bool} {op : List Int} {sa : List Bool} {q T Rs : List Int} {i : Nat} (hv : 0 ≤ f.vars ∧ f.vars ≤ 8000) (hi : i < f.cls.length) (hn : f.cls.length ≤ 40) (hw : ∀ c ∈ f.cls, c.length ≤ 1000) (hc : ∀ c ∈ f.cls, ∀ l ∈ c, l ≠ 0 ∧ -f.vars ≤ l ∧ l ≤ f.vars) (ht : tr.length = (2 * f.vars + 2).toNat)
    (hTR : Rs.length = T.length) (hTl : T.length ≤ 100000) (hTv : ∀ l ∈ T, l ≠ 0 ∧ -f.vars ≤ l ∧ l ≤ f.vars) (hRv : ∀ r ∈ Rs, -1 ≤ r ∧ r < f.cls.length) (σ : St) (hP : Pg σ d f occ tr op sa q T Rs) (G : Glob) (R : A → St → Prop)
    (h : ∀ σ' im, σ'[im]? = some (some (.map (setM (needS f.cls (wantW [] (f.cls.getD i [])) [(i : Int)] (T.zip Rs).reverse)))) → σ.length ≤ im → (∀ id, id < σ.length → σ'[id]? = σ[id]?) → R (.mapr im) σ') : AC Try.prog G 59 [.ref d.ip 0, dn i] σ R := by
  refine ac_enter' mixed Try.func59 rfl Try.ntmps59 (by simp only [go_sem]) fun hbd => ?_
  simp only [List.length_cons, List.length_nil, Nat.reduceAdd, Nat.reduceSub, List.replicate_succ, List.replicate_zero, List.cons_append, List.nil_append]
  have hpc := hP.c
  simp only [pgCells] at hpc
  have hipl := hP.lt d.ip (by simp [Ids.all])
  obtain ⟨N, hN⟩ : ∃ N : Nat, N = tr.length := ⟨_, rfl⟩
  have l6 := lt_of_some hP.c
  have w1 : IntKind.i64.wrap ((T.length : Int) - 1) = (T.length : Int) - 1 := wrap64_id _ (by omega) (by omega)
  have l7 := lt_of_some hP.t
  simp only [go_sem, objK_apl, live_apl, l6, l7, objK_of hpc, live_of hpc, live_of hP.t, w1, List.flatten_replicate_singleton]
  refine ⟨⟨by omega, by omega, by omega, by omega⟩, ac' (want_ac (d := d) (f := f) (iw := σ.length + 2) (N := tr.length) (wb := List.replicate tr.length false) (W := []) (cells := pgCells d f occ tr.length f.cls.length q.length T.length Rs.length) hv hi hn hw hc _ ?_ ?_ rfl ?_ ?_ (by omega) ht (trOf.zero _ ht) _ _ fun wb hT => ?_)⟩
  · rw [List.getElem?_append_right (Nat.le_refl _)]; simp
  · rw [List.getElem?_append_left l6]; exact hP.c
  · rw [List.getElem?_append_right (by omega)]; simp
  · rw [List.getElem?_append_right (by omega)]; simp [bolsO]
  have es : ∀ (a b e : Option Ob) (x y : Option Ob), (σ ++ [a, b, x, e]).set (σ.length + 2) y = σ ++ [a, b, y, e] := fun a b e x y => by
    rw [List.set_append_right _ _ (by omega), Nat.add_sub_cancel_left]; rfl
  simp only [es, go_sem, objK_apl, live_apl, l6, objK_of hpc, live_of hpc, hP.T, live_of hP.T, lt_of_some hP.T, w1]
  refine aw_loop (fun m fr st => ∃ (j : Nat) (wb : List Bool) (W acc : List Int), j ≤ T.length ∧ m = j ∧ trOf f.vars wb W ∧ needS f.cls W acc ((T.zip Rs).take j).reverse = needS f.cls (wantW [] (f.cls.getD i [])) [(i : Int)] (T.zip Rs).reverse ∧ fr = [.any, .any, .ref σ.length 0, .any, .any, .mapr (σ.length + 1), .ref (σ.length + 3) 0, .fn (.func 82) [] [.ref σ.length 0, .ref (σ.length + 3) 0], di ((j : Int) - 1), .any, .any, .any, .any, .any, .any, .any, .any, .any, .any, .any, .any, .any, .any, .any, .any, .any, .any, .any, .any, .any, .any, .any, .any, .any, .any, .any, .any, .any, .any, .any, .any, .any, .any, .any, .any, .any, .any, .any, .any, .any, .any, .any, .any, .any, .any, .any, .any, .any, .any, .any, .any] ∧ st = σ ++ [some (.cells [.ref d.ip 0]), some (.map (setM acc)), bolsO wb, some (.cells [.rs (σ.length + 2) 1 0 tr.length (some 4)])]) T.length _
    (Wk.mask [2, 5, 6, 7, 8] ⟨T.length, wb, _, _, by omega, rfl, hT, by rw [List.take_of_length_le (by simp [hTR])], rfl, rfl⟩) ?_
  clear hT wb
  rintro m fr st ⟨j, wb, W, acc, hj, hm, hT, hA, rfl, rfl⟩
  rcases j with _ | j
  · have kd : decide (((0 : Nat) : Int) - 1 ≥ 0) = false := by simp
    simp only [go_sem, kd, Try.results59]
    rw [List.take_zero, List.reverse_nil, needS] at hA
    refine ⟨_, _, Weak.refl _ _ _ _, h _ (σ.length + 1) ?_ (by omega) fun id hid => List.getElem?_append_left hid⟩
    rw [List.getElem?_append_right (by omega), ← hA]; simp
  · have kd : decide (0 ≤ (j : Int)) = true := by simp
    have ej : ((j + 1 : Nat) : Int) - 1 = (j : Int) := by omega
    have lR := lt_of_some hP.R
    have lT := lt_of_some hP.T
    have e1 : List.getD (Rs.map fun x => A.d (iD x)) j .any = A.d (iD (Rs.getD j 0)) := getD_mapA (by omega)
    have e2 : List.getD (T.map fun x => A.d (iD x)) j .any = A.d (iD (T.getD j 0)) := getD_mapA (by omega)
    have hrv := hRv _ (getD_mem 0 (show j < Rs.length by omega))
    have hlv := hTv _ (getD_mem 0 (show j < T.length by omega))
    have ez : ((T.zip Rs).take (j + 1)).reverse = (T.getD j 0, Rs.getD j 0) :: ((T.zip Rs).take j).reverse := by
      have hz : j < (T.zip Rs).length := by rw [List.length_zip]; omega
      rw [List.take_add_one, List.getElem?_eq_getElem hz, List.reverse_append]
      simp only [Option.toList, List.reverse_singleton, List.singleton_append, List.getElem_zip]
      rw [List.getD_eq_getElem?_getD, List.getD_eq_getElem?_getD, List.getElem?_eq_getElem (by omega), List.getElem?_eq_getElem (by omega)]
      rfl
    rw [ez, needS] at hA
    generalize T.getD j 0 = l at e2 hlv hA
    generalize Rs.getD j 0 = r at e1 hrv hA
    have hcl : codeN l < wb.length := by rw [hT.1]; exact codeN_lt hv.1 hlv.2
    have hwl := hT.1
    have e3 : List.getD (wb.map fun x => A.d (.bool x)) (codeN l) .any = A.d (.bool (wb.getD (codeN l) false)) := getD_mapB hcl
    have e4 := hT.2 l hlv.2.1 hlv.2.2 hlv.1
    have w2 : IntKind.i64.wrap ((j : Int) - 1) = (j : Int) - 1 := wrap64_id _ (by omega) (by omega)
    simp only [ej, kd, go_sem, objK_apl, live_apl, l6, objK_of hpc, live_of hpc, hP.R, live_of hP.R, objK_of hP.R, lR, List.length_map, Nat.mul_one, e1]
    refine ⟨⟨by omega, by omega⟩, by omega, ?_⟩
    refine aw_plan (.tk 3 0 <| .tk 7 4 <| .pure 11 <| .take 3 <| .tk 3 12 <| .done) (by kernel_rfl) ?_
    simp only [go_sem, objK_apl, live_apl, l6, objK_of hpc, live_of hpc, live_of hP.T, objK_of hP.T, lT, List.length_map, Nat.mul_one, e2]
    refine ⟨fun hh => ⟨hh, by omega, by omega⟩, fun hh => ⟨hh, by omega⟩, exQ (.int .i64 (codeN l)) ⟨fun hg => ?_, ?_⟩⟩
    · rw [e2]
      simp only [go_sem]
      exact ⟨hg, fun σ' => ac' (code_ac _ (by omega) _ _ _ ⟨rfl, rfl⟩)⟩
    simp only [go_sem, List.length_map, Nat.mul_one, e3, e4]
    rw [w2]
    refine ⟨fun hh => ⟨hh, by omega, by omega⟩, fun hh => ⟨hh, hcl⟩, fun hh => ?_, fun hh => ?_⟩
    · simp only [Bool.and_eq_true, decide_eq_true_eq] at hh
      rw [if_pos hh] at hA
      obtain ⟨n, rfl⟩ : ∃ n : Nat, r = n := ⟨r.toNat, by omega⟩
      rw [Int.toNat_natCast] at hA
      refine ac' (want_ac (d := d) (f := f) (r := n) (iw := σ.length + 2) (N := tr.length) (wb := wb) (W := W) (cells := pgCells d f occ tr.length f.cls.length q.length T.length Rs.length) hv (by omega) hn hw hc _ ?_ ?_ rfl ?_ ?_ (by omega) ht hT _ _ fun wb' hT' => ?_)
      · rw [List.getElem?_append_right (Nat.le_refl _)]; simp
      · rw [List.getElem?_append_left l6]; exact hP.c
      · rw [List.getElem?_append_right (by omega)]; simp
      · rw [List.getElem?_append_right (by omega)]; simp
      · simp only [es, go_sem, w2]
        exact Wk.mask [2, 5, 6, 7, 8] ⟨j, by omega, j, wb', _, _, by omega, rfl, hT', hA, rfl, rfl⟩
    · rw [if_neg (by simpa using hh)] at hA
      exact Wk.mask [2, 5, 6, 7, 8] ⟨j, by omega, j, wb, W, acc, by omega, rfl, hT, hA, rfl, rfl⟩
end Go.Proofs.Ytpmjdaiboniagaa
end PartU14
