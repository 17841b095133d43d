/- The law LexerLayout. -/
import Derived.Test.YtaapoadjgfoieaaDoorT12
set_option linter.unusedSimpArgs false
set_option maxRecDepth 100000
namespace Go.Proofs.YtaapoadjgfoieaaDoor
open Go Go.Ab
def lay : List (List UInt8) → List UInt8 → List UInt8
  | [], _ => []
  | x :: xs, [] => x ++ ([32] ++ lay xs [])
  | x :: xs, k :: ks => x ++ (gapL k.toNat ++ lay xs ks)
def Gp (g : List UInt8) : Prop := ∀ t, sk false (g ++ t) = g.length + sk false t
theorem gp_nil : Gp [] := fun t => by simp
theorem gp_blank : Gp [32] := fun t => by
  have h : whiteB 32 = true := by decide
  rw [List.cons_append, List.nil_append, sk_f]
  simp [h]
theorem gp_gap (k : Nat) : Gp (gapL k) := by
  have w32 : whiteB 32 = true := by decide
  have w10 : whiteB 10 = true := by decide
  have w9 : whiteB 9 = true := by decide
  have w13 : whiteB 13 = true := by decide
  have l47 : lineB 47 = true := by decide
  have l32 : lineB 32 = true := by decide
  have l120 : lineB 120 = true := by decide
  have l58 : lineB 58 = true := by decide
  have l61 : lineB 61 = true := by decide
  have l49 : lineB 49 = true := by decide
  have l10 : lineB 10 = false := by decide
  unfold gapL
  have h6 : k % 6 < 6 := Nat.mod_lt _ (by omega)
  generalize k % 6 = j at h6
  match j, h6 with
  | 0, _ => intro t; simp [gapsL, sk_f, w32]
  | 1, _ => intro t; simp [gapsL, sk_f, w10]
  | 2, _ => intro t; simp [gapsL, sk_f, w9, w32]; omega
  | 3, _ => intro t; simp [gapsL, sk_f, sk_t, w32, l47, l32, l120, l58, l61, l49, l10]; omega
  | 4, _ => intro t; simp [gapsL, sk_f, w13, w10]; omega
  | 5, _ => intro t; simp [gapsL, sk_f, sk_t, l47, l10]; omega
/-- A gap begins with a sign that no token goes on with. -/
def Brk (g : List UInt8) : Prop := ∃ c t, g = c :: t ∧ wordB c = false ∧ ∀ y ∈ symsP, c ∉ y
theorem brk_blank : Brk [32] := ⟨32, [], rfl, by decide, by decide⟩
theorem brk_gap (k : Nat) : Brk (gapL k) := by
  unfold gapL
  have h6 : k % 6 < 6 := Nat.mod_lt _ (by omega)
  generalize k % 6 = j at h6
  match j, h6 with
  | 0, _ => exact ⟨32, _, rfl, by decide, by decide⟩
  | 1, _ => exact ⟨10, _, rfl, by decide, by decide⟩
  | 2, _ => exact ⟨9, _, rfl, by decide, by decide⟩
  | 3, _ => exact ⟨32, _, rfl, by decide, by decide⟩
  | 4, _ => exact ⟨13, _, rfl, by decide, by decide⟩
  | 5, _ => exact ⟨47, _, rfl, by decide, by decide⟩
theorem tok47 (t : List UInt8) : tokL symsP (47 :: t) = none := by
  have h1 : letterB 47 = false := by decide
  have h2 : digitB 47 = false := by decide
  rw [tokL_eq rfl, h1, if_neg Bool.false_ne_true, h2, if_neg Bool.false_ne_true, if_pos]
  simp [symL, symsP, pre]
/-- x is a token. -/
def TokOf (kd : Nat) (x : List UInt8) : Prop := tokL symsP x = some (kd, x.length) ∧ sk false x = 0
theorem sk_tok {kd : Nat} {x : List UInt8} (h : TokOf kd x) (t : List UInt8) : sk false (x ++ t) = 0 := by
  obtain ⟨h1, h2⟩ := h
  match x with
  | [] => simp [tokL] at h1
  | c :: x' =>
    have hc : (c == 47) = false := by
      cases hc : c == 47 with
      | false => rfl
      | true =>
        have : c = 47 := by simpa using hc
        subst this
        rw [tok47] at h1; cases h1
    rw [List.cons_append, sk_f, hc, Bool.false_and, if_neg Bool.false_ne_true]
    rw [sk_f, hc, Bool.false_and, if_neg Bool.false_ne_true] at h2
    cases hw : whiteB c with
    | false => rfl
    | true => rw [hw, if_pos rfl] at h2; omega
def kt (t : Tok) : Nat × List UInt8 := (t.kind, t.text)
theorem lex_lay : ∀ (ts : List Tok) (g ks : List UInt8) (f pos k : Nat), (∀ t ∈ ts, TokOf t.kind t.text) → Gp g → (g ++ lay (ts.map (·.text)) ks).length < f → k + ts.length ≤ 1500 →
    ∃ us, lexL symsP f (g ++ lay (ts.map (·.text)) ks) pos k = .ok us ∧ us.map kt = ts.map kt
  | [], g, ks, f, pos, k, _, hg, hf, _ => by
    obtain ⟨f, rfl⟩ : ∃ f', f = f' + 1 := ⟨f - 1, by omega⟩
    refine ⟨[], ?_, rfl⟩
    have : lay (([] : List Tok).map (·.text)) ks = [] := by cases ks <;> rfl
    rw [this, List.append_nil, lexL, if_pos (by have := hg []; simpa [sk] using this)]
  | t :: ts, g, ks, f, pos, k, hts, hg, hf, hk => by
    obtain ⟨f, rfl⟩ : ∃ f', f = f' + 1 := ⟨f - 1, by omega⟩
    obtain ⟨g', ks', hlay, hgp, hb⟩ : ∃ g' ks', lay ((t :: ts).map (·.text)) ks = t.text ++ (g' ++ lay (ts.map (·.text)) ks') ∧ Gp g' ∧ Brk g' := by
      cases ks with
      | nil => exact ⟨[32], [], rfl, gp_blank, brk_blank⟩
      | cons c ks => exact ⟨gapL c.toNat, ks, rfl, gp_gap _, brk_gap _⟩
    have htok := hts t (by simp)
    have hlen := tok_len htok.1
    rw [hlay] at hf ⊢
    have hs : sk false (g ++ (t.text ++ (g' ++ lay (ts.map (·.text)) ks'))) = g.length := by
      rw [hg, sk_tok htok]; rfl
    have hd1 : (g ++ (t.text ++ (g' ++ lay (ts.map (·.text)) ks'))).drop g.length = t.text ++ (g' ++ lay (ts.map (·.text)) ks') := List.drop_left
    have hd2 : (g ++ (t.text ++ (g' ++ lay (ts.map (·.text)) ks'))).drop (g.length + t.text.length) = g' ++ lay (ts.map (·.text)) ks' := by
      rw [← List.drop_drop, hd1, List.drop_left]
    have htk : tokL symsP (t.text ++ (g' ++ lay (ts.map (·.text)) ks')) = some (t.kind, t.text.length) := by
      obtain ⟨c, r, rfl, hw, hx⟩ := hb
      exact tok_ext hw hx htok.1 _
    simp only [List.length_cons] at hk
    obtain ⟨us, h1, h2⟩ := lex_lay ts g' ks' f (pos + g.length + t.text.length) (k + 1) (fun u hu => hts u (by simp [hu])) hgp (by simp only [List.length_append] at hf ⊢; omega) (by omega)
    refine ⟨⟨t.kind, t.text, pos + g.length⟩ :: us, ?_, by simp [h2, kt]⟩
    rw [lexL, hs, if_neg (by simp only [List.length_append]; omega), if_neg (by omega), hd1, htk]
    simp only [hd2, h1, List.take_left]
theorem tokOf_of {s : List UInt8} {ts : List Tok} (h : lexS symsP s = .ok ts) : ∀ t ∈ ts, TokOf t.kind t.text := fun t ht => by
  obtain ⟨_, hat⟩ := lexS_at h
  obtain ⟨n, k1, k2, k3⟩ := hat t ht
  have hn := tok_len k2
  have hl : t.text.length = n := by rw [k1, List.length_take]; omega
  refine ⟨?_, ?_⟩
  · rw [hl, k1]; exact tok_take k2 (Nat.le_refl _)
  · rw [k1, sk_take _ _ _ (by omega)]; exact k3
theorem lexS_lay {s : List UInt8} {ts : List Tok} (h : lexS symsP s = .ok ts) (ks : List UInt8) (hl : (lay (ts.map (·.text)) ks).length ≤ 4000) : ∃ us, lexS symsP (lay (ts.map (·.text)) ks) = .ok us ∧ us.map kt = ts.map kt := by
  rw [lexS_small hl ((lay (ts.map (·.text)) ks).length + 1) (by omega)]
  have := lex_lay ts [] ks ((lay (ts.map (·.text)) ks).length + 1) 0 0 (tokOf_of h) gp_nil (by simp) (by have := lexS_len h; omega)
  simpa using this
theorem law5_ac (s ks : List UInt8) (σ : St) (G : Glob) (hG : G 0 = some (.agg (symsP.map .str))) (R : A → St → Prop) (h : R (db true) σ) : AC Tryd.prog G 5 [.d (.str s), .d (.sl 1 (ks.map fun c => D.int .u8 (c.toNat : Int)))] σ R := by
  refine ac_enter mixed Tryd.func5 rfl Tryd.ntmps5 (by simp only [facts]) fun hbd => ?_
  simp only [List.length_cons, List.length_nil, Nat.reduceAdd, Nat.reduceSub, List.replicate_succ, List.replicate_zero, List.cons_append, List.nil_append]
  simp only [go_sem, facts]
  refine ac' (head_ac _ _ hG _ ?_)
  simp only [go_sem, facts]
  obtain ⟨r, hr⟩ : ∃ r, lexS symsP s = r := ⟨_, rfl⟩
  refine ac' (qlex_ac s r hr _ _ _ ?_)
  have z00 : (((0 : Nat) : Int) != 0) = false := rfl
  rcases r with ⟨e, p⟩ | ts
  · have he2 : (((e : Nat) : Int) != 0) = true := by rcases lexS_code hr with rfl | rfl <;> rfl
    simp only [resD, toksD, go_sem, facts, Tryd.results5, he2]
    exact ret_d0 h
  · have hts := lexS_len hr
    obtain ⟨h4, hat⟩ := lexS_at hr
    simp only [resD, toksD, go_sem, facts, Tryd.results5, z00]
    have htl : ∀ t ∈ ts, t.text.length ≤ 4000 := fun t ht => by
      obtain ⟨n, k1, _, _⟩ := hat t ht
      have := congrArg List.length k1
      rw [List.length_take, List.length_drop] at this; omega
    refine aw_loop (fun m fr st => ∃ (j : Nat) (bs : List UInt8), j ≤ ts.length ∧ m = ts.length - j ∧ bs.length ≤ 8100 ∧ bs ++ lay ((ts.drop j).map (·.text)) (ks.drop j) = lay (ts.map (·.text)) ks ∧
      fr = [.any, .d (.sl 1 (ks.map fun c => D.int .u8 (c.toNat : Int))), .any, .any, .any, db true, .d (.sl 3 (ts.map tokD)), .any, .any, .rs σ.length 1 0 bs.length (some 5), dn j, .any, .any, .any, .any, .any, .any, .any, .any, .any, .any, .any, .any, .any, .any, .any, .any, .any, .any, .any, .any, .any, .any, .any, .any, .any, .any, .any, .any, .any, .any, .any, .any, .any, .any, .any, .any, .any, .any, .any, .any, .any, .any, .any, .any, .any, .any, .any, .any, .any, .any, .any, .any, .any, .any, .any, .any, .any, .any, .any, .any, .any, .any, .any, .any, .any, .any, .any, .any, .any, .any, .any, .any, .any, .any, .any, .any, .any, .any, .any, .any, .any, .any, .any, .any, .any, .any, .any, .any, .any, .any, .any, .any, .any, .any, .any, .any, .any] ∧
      st = σ ++ [some (Ob.cells (bs.map fun c => A.d (.int .u8 (c.toNat : Int))))]) ts.length _
      ⟨_, _, (Weak.mask [1, 5, 6, 9, 10]).trans (Weak.empty 9 1 (some 5) rfl), 0, [], by omega, rfl, by simp, by simp, by simp only [maskN]; rfl, rfl⟩ ?_
    rintro m fr st ⟨j, bs, hj, hm, hbl, hlay, rfl, rfl⟩
    by_cases hgo : j < ts.length ∧ bs.length ≤ 4000
    · obtain ⟨hlt, hb4⟩ := hgo
      have hd : decide ((j : Int) < (ts.length : Int)) = true := by simp; omega
      have hd2 : decide ((bs.length : Int) ≤ 4000) = true := by simp; omega
      obtain ⟨t, ht⟩ : ∃ t, ts[j]? = some t := ⟨_, List.getElem?_eq_getElem hlt⟩
      have e1 : List.getD (List.map tokD ts) j default = tokD t := by rw [List.getD_eq_getElem?_getD, List.getElem?_map, ht]; rfl
      have hdr : ts.drop j = t :: ts.drop (j + 1) := by
        rw [List.drop_eq_getElem_cons hlt]; congr 1
        rw [List.getElem?_eq_getElem hlt] at ht; exact Option.some.inj ht
      have htl' := htl t (List.mem_of_getElem? ht)
      have w1 : IntKind.i64.wrap ((j : Int) + 1) = ((j + 1 : Nat) : Int) := by rw [wrap64_id _ (by omega) (by omega)]; rfl
      rw [hdr, List.map_cons] at hlay
      rcases Nat.lt_or_ge j ks.length with hk | hk
      · have hd3 : decide ((j : Int) < (ks.length : Int)) = true := by simp; omega
        have hkd : ks.drop j = ks.getD j 0 :: ks.drop (j + 1) := drop_cons hk
        have e3 : List.getD (ks.map fun c => D.int .u8 (c.toNat : Int)) j default = D.int .u8 ((ks.getD j 0).toNat : Int) := by
          rw [List.getD_eq_getElem?_getD, List.getElem?_map, List.getElem?_eq_getElem hk]; simp [List.getD, hk]
        rw [hkd, lay] at hlay
        simp only [go_sem, facts, List.length_map, hd, hd2, hd3, e1, e3, tokD, w1, Tryd.results5]
        refine ⟨⟨by omega, by omega⟩, ⟨by omega, by simp only [maxLen]; omega, by omega⟩, ⟨by omega, by omega⟩, ac' (gapC_ac _ (by have := (ks.getD j 0).toNat_lt; omega) _ _ _ ?_)⟩
        have hgl : (gapL (ks.getD j 0).toNat).length ≤ 13 := by
          unfold gapL
          have h6 : (ks.getD j 0).toNat % 6 < 6 := Nat.mod_lt _ (by omega)
          generalize (ks.getD j 0).toNat % 6 = q at h6
          match q, h6 with
          | 0, _ => decide
          | 1, _ => decide
          | 2, _ => decide
          | 3, _ => decide
          | 4, _ => decide
          | 5, _ => decide
        simp only [go_sem, facts, List.length_map, hd, hd2, hd3, e1, e3, tokD, w1, Tryd.results5]
        refine ⟨⟨by omega, by simp only [maxLen]; omega, by omega⟩, ?_⟩
        refine Wk.keep [1, 5, 6, 9, 10] [2] (by decide) (Nat.le_refl _) hbd ⟨ts.length - (j + 1), by omega, j + 1, bs ++ (t.text ++ gapL (ks.getD j 0).toNat), hlt, rfl, by simp only [List.length_append]; omega, by rw [← hlay]; simp, ?_, ?_⟩
        · simp only [go_sem, Nat.add_assoc]
        · simp only [go_sem, List.map_append, List.append_assoc]
      · have hd3 : decide ((j : Int) < (ks.length : Int)) = false := by simp; omega
        rw [List.drop_of_length_le hk, lay] at hlay
        simp only [go_sem, facts, List.length_map, hd, hd2, hd3, e1, tokD, w1, Tryd.results5]
        refine ⟨⟨by omega, by omega⟩, ⟨by omega, by simp only [maxLen]; omega, by omega⟩, by omega, ⟨by omega, by simp only [maxLen]; omega, by omega⟩, ?_⟩
        refine Wk.keep [1, 5, 6, 9, 10] [3] (by decide) (Nat.le_refl _) hbd ⟨ts.length - (j + 1), by omega, j + 1, bs ++ (t.text ++ [32]), hlt, rfl, by simp only [List.length_append, List.length_cons, List.length_nil]; omega, by rw [← hlay, List.drop_of_length_le (show ks.length ≤ j + 1 by omega)]; simp, ?_, ?_⟩
        · simp only [go_sem, Nat.add_assoc]
        · simp only [go_sem, List.map_append, List.append_assoc, List.map_cons, List.map_nil]; rfl
    · have hd : (decide ((j : Int) < (ts.length : Int)) && decide ((bs.length : Int) ≤ 4000)) = false := by
        rw [Bool.and_eq_false_iff, decide_eq_false_iff_not, decide_eq_false_iff_not]; omega
      simp only [go_sem, facts, List.length_map, hd, Tryd.results5]
      refine ⟨fun _ => ret_d hbd h, fun hc => ?_⟩
      have hb4 : bs.length ≤ 4000 := by simp at hc; omega
      have hj' : j = ts.length := by omega
      subst hj'
      rw [List.drop_length, List.map_nil] at hlay
      have hl0 : ∀ l, lay [] l = [] := fun l => by cases l <;> rfl
      rw [hl0, List.append_nil] at hlay
      rw [List.take_of_length_le (by simp), bytesA_map]
      obtain ⟨us, hu1, hu2⟩ := lexS_lay hr ks (by rw [← hlay]; exact hb4)
      rw [← hlay] at hu1
      have hul : us.length = ts.length := by have := congrArg List.length hu2; simpa using this
      simp only [go_sem]
      refine ac' (plex_ac _ _ hu1 _ _ hG _ ?_)
      have z1 : (((ts.length : Nat) : Int) != ((ts.length : Nat) : Int)) = false := by simp
      simp only [resD, toksD, go_sem, facts, List.length_map, z00, hul, z1, Tryd.results5]
      refine aw_loop (fun m fr st => ∃ j : Nat, j ≤ ts.length ∧ m = ts.length - j ∧ fr = [.any, .any, .any, .any, .any, db true, .d (.sl 3 (ts.map tokD)), .any, .any, .any, .any, .d (.sl 3 (us.map tokD)), .any, .any, dn j, .any, .any, .any, .any, .any, .any, .any, .any, .any, .any, .any, .any, .any, .any, .any, .any, .any, .any, .any, .any, .any, .any, .any, .any, .any, .any, .any, .any, .any, .any, .any, .any, .any, .any, .any, .any, .any, .any, .any, .any, .any, .any, .any, .any, .any, .any, .any, .any, .any, .any, .any, .any, .any, .any, .any, .any, .any, .any, .any, .any, .any, .any, .any, .any, .any, .any, .any, .any, .any, .any, .any, .any, .any, .any, .any, .any, .any, .any, .any, .any, .any, .any, .any, .any, .any, .any, .any, .any, .any, .any, .any, .any, .any] ∧
        st = σ ++ [some (Ob.cells (bs.map fun c => A.d (.int .u8 (c.toNat : Int))))]) ts.length _ (Wk.mask [5, 6, 11, 14] ⟨0, by omega, rfl, rfl, rfl⟩) ?_
      rintro m fr st ⟨j, hj, hm, rfl, rfl⟩
      rcases Nat.lt_or_ge j ts.length with hlt | hge
      · have hd : decide ((j : Int) < (ts.length : Int)) = true := by simp; omega
        obtain ⟨t, ht⟩ : ∃ t, ts[j]? = some t := ⟨_, List.getElem?_eq_getElem hlt⟩
        obtain ⟨u, hu⟩ : ∃ u, us[j]? = some u := ⟨_, List.getElem?_eq_getElem (by omega)⟩
        have e1 : List.getD (List.map tokD ts) j default = tokD t := by rw [List.getD_eq_getElem?_getD, List.getElem?_map, ht]; rfl
        have e2 : List.getD (List.map tokD us) j default = tokD u := by rw [List.getD_eq_getElem?_getD, List.getElem?_map, hu]; rfl
        have hkt : kt u = kt t := by
          have := congrArg (fun l => l[j]?) hu2
          simpa [hu, ht] using this
        simp only [kt, Prod.mk.injEq] at hkt
        have z2 : (((t.kind : Nat) : Int) != ((t.kind : Nat) : Int)) = false := by simp
        have w1 : IntKind.i64.wrap ((j : Int) + 1) = ((j + 1 : Nat) : Int) := by rw [wrap64_id _ (by omega) (by omega)]; rfl
        simp only [go_sem, facts, List.length_map, hd, hul, e1, e2, tokD, hkt, z2, w1, beq_self_eq_true, Tryd.results5]
        exact ⟨⟨by omega, by omega⟩, ⟨by omega, by omega⟩, ⟨by omega, by omega⟩, ⟨by omega, by omega⟩, Wk.mask [5, 6, 11, 14] ⟨ts.length - (j + 1), by omega, j + 1, hlt, rfl, rfl, rfl⟩⟩
      · have hd : decide ((j : Int) < (ts.length : Int)) = false := by simp; omega
        simp only [go_sem, facts, List.length_map, hd, hul, Tryd.results5]
        exact ret_d hbd h
end Go.Proofs.YtaapoadjgfoieaaDoor
