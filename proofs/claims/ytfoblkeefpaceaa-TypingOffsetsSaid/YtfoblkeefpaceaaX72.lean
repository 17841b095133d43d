import Derived.Test.YtfoblkeefpaceaaX71
import Derived.Lib.Bytealg
import Derived.Laws.Externs

section PartT1
/- Package typing: kids, operators, numbers, meanings. -/
set_option linter.unusedSimpArgs false
set_option linter.unusedVariables false
set_option maxRecDepth 100000
namespace Go.Proofs.Ytfoblkeefpaceaa
open Go Go.Ab

theorem none_end {σ : St} {G : Glob} {R : A → St → Prop} {l : St} (hbd : Bd σ.length σ) (h : R (.d Nd.none.d) σ) : ∃ r σ', Weak G σ.length [.d (.agg [iD 63, .str [], .str [], iD 0, iD 0, iD 0, .bool false, .nils, iD 0])] (σ ++ l) [r] σ' ∧ R r σ' := by
  refine ⟨_, σ, (Weak.cut (Nat.le_refl _) hbd rfl).trans (Weak.nils ?_), h⟩
  rw [Nd.d_eq]
  repeat' first | exact NilAL.nil | apply NilAL.cons | exact NilA.refl _ | apply NilA.d | exact NilD.refl _ | exact NilD.nil _ | apply NilD.sl | apply NilD.agg | apply NilDL.cons | exact NilDL.nil
theorem none_ac (σ : St) (G : Glob) (R : A → St → Prop) (h : R (.d Nd.none.d) σ) : AC Try.prog G 72 [] σ R := by
  refine ac_enter mixed Try.func72 rfl Try.ntmps72 (by simp only [go_sem]) fun hbd => ?_
  simp only [List.length_cons, List.length_nil, Nat.reduceAdd, Nat.reduceSub, List.replicate_succ, List.replicate_zero, List.cons_append, List.nil_append]
  simp only [go_sem, Try.results72]
  exact none_end hbd h
theorem kid_d {e : Nd} {i : Nat} (h : i < e.kids.length) : List.getD (e.kids.map Nd.d) i default = .agg (e.kid i).cs := by
  rw [getD_mapD (d := Nd.none) h, Nd.d_eq]; rfl
theorem kid_ac (e : Nd) (i : Nat) (hi : i < 9223372036854775807) (hl : e.kids.length ≤ reachBytes) (σ : St) (G : Glob) (R : A → St → Prop) (h : R (.d (e.kid i).d) σ) : AC Try.prog G 56 [.d e.d, dn i] σ R := by
  rw [Nd.d_eq]
  refine ac_enter mixed Try.func56 rfl Try.ntmps56 (by simp only [go_sem]) fun hbd => ?_
  simp only [List.length_cons, List.length_nil, Nat.reduceAdd, Nat.reduceSub, List.replicate_succ, List.replicate_zero, List.cons_append, List.nil_append]
  rcases Nat.lt_or_ge i e.kids.length with hlt | hge
  · have hd : decide ((i : Int) < (e.kids.length : Int)) = true := by simp; omega
    have e1 := kid_d hlt
    simp only [go_sem, List.length_map, hd, e1, Nd.cs, Try.results56]
    rw [Nd.d_eq] at h
    exact ⟨⟨by omega, by omega⟩, ret_d hbd h⟩
  · have hd : decide ((i : Int) < (e.kids.length : Int)) = false := by simp; omega
    have hn : e.kid i = Nd.none := by unfold Nd.kid; rw [List.getD_eq_getElem?_getD, List.getElem?_eq_none hge]; rfl
    rw [hn] at h
    simp only [go_sem, List.length_map, hd, Try.results56]
    refine ac' (none_ac _ _ _ ?_)
    rw [Nd.d_eq] at h ⊢
    simp only [go_sem, Try.results56]
    exact ret_d hbd h
theorem shl_eq (w : Nat) (hw : w ≤ 8) : IntKind.i64.wrap (1 * 2 ^ min (IntKind.u64.wrap (w : Int)).toNat 64) = 2 ^ (w : Int).toNat := by
  have : ∀ w : Fin 9, IntKind.i64.wrap (1 * 2 ^ min (IntKind.u64.wrap ((w.1 : Nat) : Int)).toNat 64) = 2 ^ ((w.1 : Nat) : Int).toNat := by decide +kernel
  exact this ⟨w, by omega⟩
theorem fits_ac (n : Int) (w : Nat) (hw : w ≤ 8) (σ : St) (G : Glob) (R : A → St → Prop) (h : R (db (fitsM n w)) σ) : AC Try.prog G 54 [di n, dn w] σ R := by
  refine ac_enter mixed Try.func54 rfl Try.ntmps54 (by simp only [go_sem]) fun hbd => ?_
  simp only [List.length_cons, List.length_nil, Nat.reduceAdd, Nat.reduceSub, List.replicate_succ, List.replicate_zero, List.cons_append, List.nil_append]
  simp only [go_sem, shl_eq w hw, Try.results54]
  unfold fitsM at h
  rw [Bool.decide_and] at h
  exact ret_d0 h
theorem op_ac (s : Str) (σ : St) (G : Glob) (R : A → St → Prop) (h : R (di (opM s)) σ) : AC Try.prog G 66 [.d (.str s)] σ R := by
  refine ac_enter mixed Try.func66 rfl Try.ntmps66 (by simp only [go_sem]) fun hbd => ?_
  simp only [List.length_cons, List.length_nil, Nat.reduceAdd, Nat.reduceSub, List.replicate_succ, List.replicate_zero, List.cons_append, List.nil_append]
  unfold opM at h
  by_cases b1 : (s == [61, 61, 62]) = true
  · rw [if_pos (by simp [b1])] at h
    simp only [go_sem, b1, Try.results66]; exact ret_d0 h
  by_cases b2 : (s == [124, 124]) = true
  · rw [if_pos (by simp [b2])] at h
    simp only [go_sem, b1, b2, Try.results66]; exact ret_d0 h
  by_cases b3 : (s == [38, 38]) = true
  · rw [if_pos (by simp [b3])] at h
    simp only [go_sem, b1, b2, b3, Try.results66]; exact ret_d0 h
  rw [if_neg (by simp [b1, b2, b3])] at h
  by_cases c1 : (s == [61, 61]) = true
  · rw [if_pos (by simp [c1])] at h
    simp only [go_sem, b1, b2, b3, c1, Try.results66]; exact ret_d0 h
  by_cases c2 : (s == [33, 61]) = true
  · rw [if_pos (by simp [c2])] at h
    simp only [go_sem, b1, b2, b3, c1, c2, Try.results66]; exact ret_d0 h
  by_cases c3 : (s == [60]) = true
  · rw [if_pos (by simp [c3])] at h
    simp only [go_sem, b1, b2, b3, c1, c2, c3, Try.results66]; exact ret_d0 h
  by_cases c4 : (s == [60, 61]) = true
  · rw [if_pos (by simp [c4])] at h
    simp only [go_sem, b1, b2, b3, c1, c2, c3, c4, Try.results66]; exact ret_d0 h
  rw [if_neg (by simp [c1, c2, c3, c4])] at h
  by_cases d1 : (s == [124]) = true
  · rw [if_pos (by simp [d1])] at h
    simp only [go_sem, b1, b2, b3, c1, c2, c3, c4, d1, Try.results66]; exact ret_d0 h
  by_cases d2 : (s == [94]) = true
  · rw [if_pos (by simp [d2])] at h
    simp only [go_sem, b1, b2, b3, c1, c2, c3, c4, d1, d2, Try.results66]; exact ret_d0 h
  by_cases d3 : (s == [38]) = true
  · rw [if_pos (by simp [d3])] at h
    simp only [go_sem, b1, b2, b3, c1, c2, c3, c4, d1, d2, d3, Try.results66]; exact ret_d0 h
  by_cases d4 : (s == [43]) = true
  · rw [if_pos (by simp [d4])] at h
    simp only [go_sem, b1, b2, b3, c1, c2, c3, c4, d1, d2, d3, d4, Try.results66]; exact ret_d0 h
  by_cases d5 : (s == [45]) = true
  · rw [if_pos (by simp [d5])] at h
    simp only [go_sem, b1, b2, b3, c1, c2, c3, c4, d1, d2, d3, d4, d5, Try.results66]; exact ret_d0 h
  by_cases d6 : (s == [42]) = true
  · rw [if_pos (by simp [d6])] at h
    simp only [go_sem, b1, b2, b3, c1, c2, c3, c4, d1, d2, d3, d4, d5, d6, Try.results66]; exact ret_d0 h
  rw [if_neg (by simp [d1, d2, d3, d4, d5, d6])] at h
  simp only [go_sem, b1, b2, b3, c1, c2, c3, c4, d1, d2, d3, d4, d5, d6, Try.results66]; exact ret_d0 h
theorem bits_half {n : Int} (h : 1 < n) : bitsM n = bitsM (n / 2) + 1 := by
  obtain ⟨m, rfl⟩ : ∃ m : Nat, n = m := ⟨n.toNat, by omega⟩
  unfold bitsM
  rw [if_neg (by omega)]
  have e2 : ((m : Int) / 2).toNat = m / 2 := by omega
  have e1 : ((m : Int)).toNat = m := by omega
  rw [e1, e2]
  by_cases h1 : (m : Int) / 2 ≤ 1
  · rw [if_pos h1]
    have : m = 2 ∨ m = 3 := by omega
    rcases this with rfl | rfl <;> rfl
  · rw [if_neg h1, Nat.log2_def, if_pos (by omega)]; omega
theorem bits_ac (n : Int) (hn : I64 n) (σ : St) (G : Glob) (R : A → St → Prop) (h : R (di (bitsM n)) σ) : AC Try.prog G 68 [di n] σ R := by
  refine ac_enter mixed Try.func68 rfl Try.ntmps68 (by simp only [go_sem]) fun hbd => ?_
  simp only [List.length_cons, List.length_nil, Nat.reduceAdd, Nat.reduceSub, List.replicate_succ, List.replicate_zero, List.cons_append, List.nil_append]
  simp only [go_sem, Try.results68]
  refine aw_loop (fun m fr st => ∃ (x : Int) (k : Nat), m = x.toNat ∧ I64 x ∧ k + x.toNat ≤ n.toNat ∧ bitsM x + k = bitsM n ∧ fr = [di x, .any, .any, dn (k + 1), .any, .any, .any, .any, .any, .any, .any] ∧ st = σ) n.toNat _
    (Wk.mask [0, 3] ⟨n, 0, rfl, hn, by omega, by omega, rfl, rfl⟩) ?_
  rintro m fr st ⟨x, k, rfl, hx, hk, hb, rfl, rfl⟩
  have hn2 := hn.2
  by_cases h1 : 1 < x
  · have hd : decide (1 < x) = true := by simpa using h1
    have e := bits_half h1
    have w1 := wrapS (k + 1) (by omega)
    have e2 : x.fdiv (2 ^ min (Int.toNat 1) 64) = x / 2 := by
      rw [Int.fdiv_eq_ediv_of_nonneg _ (by decide)]; rfl
    have hx2 := hx.2
    simp only [go_sem, hd, w1, e2, Try.results68]
    exact ⟨by omega, Wk.mask [0, 3] ⟨(x / 2).toNat, by omega, x / 2, k + 1, rfl, ⟨by omega, by omega⟩, by omega, by omega, rfl, rfl⟩⟩
  · have hd : decide (1 < x) = false := by simpa using h1
    have : bitsM x = 1 := by unfold bitsM; rw [if_pos (by omega)]
    simp only [go_sem, hd, Try.results68]
    refine ret_d0 ?_
    rw [← hb, this] at h
    have e : (1 : Int) + k = ((k + 1 : Nat) : Int) := by omega
    rwa [e] at h
theorem vr_d {l : List Vr} {i : Nat} (h : i < l.length) : List.getD (l.map vrD) i default = .agg [.str (l.getD i vr0).name, iD (l.getD i vr0).w, iD (l.getD i vr0).len, iD (l.getD i vr0).init, .bool (l.getD i vr0).ghost, iD (l.getD i vr0).mod, iD (l.getD i vr0).pos] := by
  rw [getD_mapD (d := vr0) h]; rfl
def okV (v : Vr) : Bool := decide (1 ≤ v.w ∧ v.w ≤ 8 ∧ 0 ≤ v.len ∧ v.len ≤ 8)
theorem all_take {α : Type} {p : α → Bool} {l : List α} {j : Nat} (d : α) (h : j < l.length) : (l.take (j + 1)).all p = ((l.take j).all p && p (l.getD j d)) := by
  rw [take_getD d h]; simp
theorem all_bad {α : Type} {p : α → Bool} {l : List α} {j : Nat} (d : α) (h : j < l.length) (hb : p (l.getD j d) = false) : l.all p = false := by
  rw [List.all_eq_false]; exact ⟨_, getD_mem d h, by rw [hb]; exact Bool.false_ne_true⟩
theorem sized_ac (l : List Vr) (hl : l.length ≤ reachBytes) (σ : St) (G : Glob) (R : A → St → Prop) (h : R (db (sizedM l)) σ) : AC Try.prog G 48 [.d (vrsD l)] σ R := by
  unfold vrsD
  refine ac_enter mixed Try.func48 rfl Try.ntmps48 (by simp only [go_sem]) fun hbd => ?_
  simp only [List.length_cons, List.length_nil, Nat.reduceAdd, Nat.reduceSub, List.replicate_succ, List.replicate_zero, List.cons_append, List.nil_append]
  simp only [go_sem, List.length_map, Try.results48]
  refine aw_loop (fun m fr st => ∃ j : Nat, j ≤ l.length ∧ m = l.length - j ∧ (l.take j).all okV = true ∧ fr = [.any, .any, .any, .any, .any, .d (.sl 7 (l.map vrD)), dn l.length, dn j, .any, .any, .any, .any, .any, .any, .any, .any, .any, .any, .any, .any, .any, .any, .any, .any, .any, .any, .any, .any, .any, .any] ∧ st = σ) l.length _
    (Wk.mask [5, 6, 7] ⟨0, by omega, by omega, rfl, rfl, rfl⟩) ?_
  rintro m fr st ⟨j, hj, hm, ha, rfl, rfl⟩
  have hre : reachBytes < 9223372036854775807 := by decide
  rcases Nat.lt_or_ge j l.length with hlt | hge
  · have hd : decide ((j : Int) < (l.length : Int)) = true := by simp; omega
    have e1 := vr_d hlt
    have w1 := wrapS j (by omega)
    simp only [go_sem, List.length_map, hd, e1, w1, Try.results48]
    generalize hv : l.getD j vr0 = v
    have hk : (decide (v.w < 1) || decide (8 < v.w) || decide (v.len < 0) || decide (8 < v.len)) = !okV v := by
      unfold okV
      rw [Bool.eq_iff_iff]; simp; omega
    refine ⟨⟨by omega, by omega⟩, fun c => ret_d hbd ?_, fun c => ?_⟩
    · rw [hk] at c
      have c' : okV v = false := by simpa using c
      have : sizedM l = false := all_bad vr0 hlt (by rw [hv]; exact c')
      rwa [this] at h
    · rw [hk] at c
      have c' : okV v = true := by simpa using c
      exact Wk.cut [5, 6, 7] (Nat.le_refl _) hbd rfl ⟨l.length - (j + 1), by omega, j + 1, hlt, rfl, by rw [all_take vr0 hlt, ha, hv, c']; rfl, rfl, rfl⟩
  · have hd : decide ((j : Int) < (l.length : Int)) = false := by simp; omega
    rw [List.take_of_length_le hge] at ha
    simp only [go_sem, hd, Try.results48]
    refine ret_d0 ?_
    have : sizedM l = true := ha
    rwa [this] at h
def Mn.kind : Mn → Int
  | .none => 0
  | .bound _ => 4
  | .var k _ => k
def Mn.num : Mn → Int
  | .bound n => n
  | _ => 0
def Mn.vr : Mn → Vr
  | .var _ v => v
  | _ => vr0
/-- A meaning, as data. -/
def mnD (m : Mn) : D := .agg ([iD m.kind, iD m.num] ++ m.vr.cs)
theorem priv_ac (m : Mn) (σ : St) (G : Glob) (R : A → St → Prop) (h : R (db (m.kind == 2 || m.kind == 3)) σ) : AC Try.prog G 58 [.d (mnD m)] σ R := by
  unfold mnD Vr.cs
  refine ac_enter mixed Try.func58 rfl Try.ntmps58 (by simp only [go_sem]) fun hbd => ?_
  simp only [List.length_cons, List.length_nil, Nat.reduceAdd, Nat.reduceSub, List.replicate_succ, List.replicate_zero, List.cons_append, List.nil_append]
  simp only [go_sem, Try.results58]
  exact ret_d hbd h
theorem decl_ac (m : Mn) (σ : St) (G : Glob) (R : A → St → Prop) (h : R (db (m.kind != 0 && m.kind != 4)) σ) : AC Try.prog G 65 [.d (mnD m)] σ R := by
  unfold mnD Vr.cs
  refine ac_enter mixed Try.func65 rfl Try.ntmps65 (by simp only [go_sem]) fun hbd => ?_
  simp only [List.length_cons, List.length_nil, Nat.reduceAdd, Nat.reduceSub, List.replicate_succ, List.replicate_zero, List.cons_append, List.nil_append]
  simp only [go_sem, Try.results65]
  exact ret_d hbd h
theorem top_ac (m : Mn) (hm : I64 m.num) (σ : St) (G : Glob) (R : A → St → Prop) (h : R (di (topM m.num)) σ) : AC Try.prog G 69 [.d (mnD m)] σ R := by
  unfold mnD Vr.cs
  refine ac_enter mixed Try.func69 rfl Try.ntmps69 (by simp only [go_sem]) fun hbd => ?_
  simp only [List.length_cons, List.length_nil, Nat.reduceAdd, Nat.reduceSub, List.replicate_succ, List.replicate_zero, List.cons_append, List.nil_append]
  simp only [go_sem, Try.results69]
  unfold topM at h
  refine ⟨fun c => ret_d hbd ?_, fun c => ?_⟩
  · rwa [if_pos (by simpa using c)] at h
  · have c' : ¬ m.num < 1 := by simpa using c
    have := hm.2
    rw [wrap64_id _ (by omega) (by omega)]
    rw [if_neg c'] at h
    exact ret_d hbd h
end Go.Proofs.Ytfoblkeefpaceaa
end PartT1

section PartS1
/- A string cut at its first point. -/
set_option linter.unusedSimpArgs false
set_option linter.unusedVariables false
set_option maxRecDepth 100000
namespace Go.Proofs.Ytfoblkeefpaceaa
open Go Go.Ab Go.RowKit

section
set_option maxHeartbeats 1000000
theorem index_calls (s : ByteArray) (c : Int) (w : World) : Calls Try.prog 94 #[.string s, .int .u8 c] w fun e w' => e = .returned (.int .i64 (Lib.indexByte s.data.toList c.toNat.toUInt8)) ∧ w' = w := by
  have mixed := mixed
  go_enter Try.func94, Try.ntmps94
  go_wp2
  rw [run_callFunc_extern Try.func98 (by kernel_rfl) (by kernel_rfl) (by kernel_rfl) (e := Extern.BytealgIndexByte.indexByte) (by kernel_rfl), Lib.run_indexByteString]
  simp only [Result.andThen]
  rw [Oper.upon_value]
  go_wp2
  go_ret
  exact ⟨rfl, rfl⟩
end
theorem index_ac (s : Str) (c : Int) (σ : St) (G : Glob) (R : A → St → Prop) (h : R (di (Lib.indexByte s c.toNat.toUInt8)) σ) : AC Try.prog G 94 [.d (.str s), .d (.int .u8 c)] σ R := by
  refine ⟨by kernel_rfl, fun ρ w vs hI hL => ?_⟩
  obtain ⟨hl, hr⟩ := hL
  match vs, hl with
  | [v0, v1], _ =>
    have h0 := hr 0 _ v0 rfl rfl
    have h1 := hr 1 _ v1 rfl rfl
    cases h0 with
    | d h0 =>
      cases h1 with
      | d h1 =>
        cases h0 with
        | str sb =>
          cases h1
          refine (index_calls sb c w).mono ?_
          rintro e w' ⟨rfl, rfl⟩
          exact .inl ⟨_, ρ, σ, _, rfl, Ext.refl _ _, hI, .d (.int _ _), h⟩
theorem indexByte_find (c : UInt8) : ∀ l : Str, Lib.indexByte l c = match l.findIdx? (· == c) with | some i => (i : Int) | none => -1
  | [] => rfl
  | b :: l => by
    unfold Lib.indexByte
    rw [List.findIdx?_cons, indexByte_find c l]
    by_cases hb : (b == c) = true
    · simp [hb]
    · have hb' : (b == c) = false := by simpa using hb
      simp only [hb', Bool.false_eq_true, if_false]
      cases l.findIdx? (· == c) with
      | none => simp
      | some i =>
        have : ((i : Int) == -1) = false := by rw [beq_eq_false_iff_ne]; omega
        simp [this]
theorem idx_ac (s : Str) (σ : St) (G : Glob) (R : A → St → Prop) (h : R (di (Lib.indexByte s 46)) σ) : AC Try.prog G 92 [.d (.str s), .d (.str [46])] σ R := by
  refine ac_enter' mixed Try.func92 rfl Try.ntmps92 (by simp only [go_sem]) fun hbd => ?_
  simp only [List.length_cons, List.length_nil, Nat.reduceAdd, Nat.reduceSub, List.replicate_succ, List.replicate_zero, List.cons_append, List.nil_append]
  have z0 : (((1 : Nat) : Int) == 0) = false := rfl
  have z1 : (((1 : Nat) : Int) == 1) = true := rfl
  have z2 : (([46] : Str).getD (Int.toNat 0) 0).toNat = 46 := rfl
  by_cases he : ([46] == s) = true
  · have : s = [46] := (by simpa using he : [46] = s).symm
    subst this
    have hk : Lib.indexByte [46] 46 = 0 := by decide
    rw [hk] at h
    simp only [go_sem, z0, z1, z2, he, Try.results92]
    exact ret_d0 h
  · have he' : ([46] == s) = false := by simpa using he
    simp only [go_sem, z0, z1, z2, he', Try.results92]
    refine ⟨by omega, ac' (index_ac s _ _ _ _ ?_)⟩
    simp only [go_sem, z0, z1, z2, he', Try.results92]
    exact ret_d0 h
theorem cutS_ac (s : Str) (hs : s.length ≤ reachBytes) (σ : St) (G : Glob) (R : A → St → Prop)
    (h1 : ∀ a b, splitM s = some (a, b) → R (.tup [.d (.str a), .d (.str b), db true]) σ) (h2 : splitM s = none → R (.tup [.d (.str s), .d (.str []), db false]) σ) : AC Try.prog G 89 [.d (.str s), .d (.str [46])] σ R := by
  have hre : reachBytes < 9223372036854775806 := by decide
  refine ac_enter mixed Try.func89 rfl Try.ntmps89 (by simp only [go_sem]) fun hbd => ?_
  simp only [List.length_cons, List.length_nil, Nat.reduceAdd, Nat.reduceSub, List.replicate_succ, List.replicate_zero, List.cons_append, List.nil_append]
  simp only [go_sem, Try.results89]
  refine ac' (idx_ac s _ _ _ ?_)
  rw [indexByte_find]
  unfold splitM at h1 h2
  cases hf : s.findIdx? (· == 46) with
  | none =>
    rw [hf] at h2
    have hd : decide ((0 : Int) ≤ -1) = false := rfl
    simp only [go_sem, hd, Try.results89]
    exact ⟨_, _, Weak.refl _ _ _ _, h2 rfl⟩
  | some i =>
    rw [hf] at h1
    have hi : i < s.length := by rw [List.findIdx?_eq_some_iff_getElem] at hf; exact hf.1
    have hd : decide ((0 : Int) ≤ (i : Int)) = true := by simp
    have w1 : IntKind.i64.wrap ((i : Int) + ((1 : Nat) : Int)) = ((i + 1 : Nat) : Int) := wrapS i (by omega)
    simp only [go_sem, hd, w1, List.length_cons, List.length_nil, Nat.zero_add, Try.results89]
    exact ⟨by omega, by omega, _, _, Weak.refl _ _ _ _, h1 _ _ rfl⟩
theorem cut_ac (s : Str) (hs : s.length ≤ reachBytes) (σ : St) (G : Glob) (R : A → St → Prop)
    (h1 : ∀ a b, splitM s = some (a, b) → R (.tup [.d (.str a), .d (.str b), db true]) σ) (h2 : splitM s = none → R (.tup [.d (.str s), .d (.str []), db false]) σ) : AC Try.prog G 75 [.d (.str s), .d (.str [46])] σ R := by
  refine ac_enter' mixed Try.func75 rfl Try.ntmps75 (by simp only [go_sem]) fun hbd => ?_
  simp only [List.length_cons, List.length_nil, Nat.reduceAdd, Nat.reduceSub, List.replicate_succ, List.replicate_zero, List.cons_append, List.nil_append]
  simp only [go_sem, Try.results75]
  refine ac' (cutS_ac s hs _ _ _ (fun a b hb => ?_) fun hb => ?_)
  · simp only [go_sem, Try.results75]
    exact ⟨_, _, Weak.refl _ _ _ _, h1 a b hb⟩
  · simp only [go_sem, Try.results75]
    exact ⟨_, _, Weak.refl _ _ _ _, h2 hb⟩
/-- Finding the first that fits, by places. -/
theorem find_step {α : Type} {p : α → Bool} {l : List α} {j : Nat} (d : α) (hl : j < l.length) (hn : (l.take j).findIdx? p = none) :
    (p (l.getD j d) = true → l.findIdx? p = some j) ∧ (p (l.getD j d) = false → (l.take (j + 1)).findIdx? p = none) := by
  rw [List.findIdx?_eq_none_iff] at hn
  constructor
  · intro hp
    rw [List.findIdx?_eq_some_iff_getElem]
    refine ⟨hl, ?_, fun k hk => ?_⟩
    · rw [List.getD_eq_getElem?_getD, List.getElem?_eq_getElem hl] at hp; exact hp
    · have := hn l[k] (by
        rw [List.mem_take_iff_getElem]
        exact ⟨k, by omega, rfl⟩)
      simpa using this
  · intro hp
    rw [List.findIdx?_eq_none_iff]
    intro x hx
    rw [take_getD d hl] at hx
    rcases List.mem_append.1 hx with h | h
    · exact hn x h
    · rw [List.mem_singleton.1 h]; exact hp
theorem split_ac (s : Str) (hs : s.length ≤ reachBytes) (σ : St) (G : Glob) (R : A → St → Prop)
    (h1 : ∀ a b, splitM s = some (a, b) → R (.tup [.d (.str a), .d (.str b), db true]) σ) (h2 : splitM s = none → R (.tup [.d (.str []), .d (.str []), db false]) σ) : AC Try.prog G 64 [.d (.str s)] σ R := by
  have hre : reachBytes < 9223372036854775806 := by decide
  refine ac_enter mixed Try.func64 rfl Try.ntmps64 (by simp only [go_sem]) fun hbd => ?_
  simp only [List.length_cons, List.length_nil, Nat.reduceAdd, Nat.reduceSub, List.replicate_succ, List.replicate_zero, List.cons_append, List.nil_append]
  simp only [go_sem, Try.results64]
  refine aw_loop (fun m fr st => ∃ j : Nat, j ≤ s.length ∧ m = s.length - j ∧ (s.take j).findIdx? (· == 46) = none ∧ fr = [.d (.str s), .any, .any, .any, .any, dn j, .any, .any, .any, .any, .any, .any, .any, .any, .any, .any, .any, .any, .any, .any, .any, .any, .any] ∧ st = σ) s.length _
    (Wk.mask [0, 5] ⟨0, by omega, by omega, rfl, rfl, rfl⟩) ?_
  rintro m fr st ⟨j, hj, hm, hn, rfl, rfl⟩
  rcases Nat.lt_or_ge j s.length with hlt | hge
  · have hd : decide ((j : Int) < (s.length : Int)) = true := by simp; omega
    have w1 := wrapS j (by omega)
    obtain ⟨f1, f2⟩ := find_step (p := (· == (46 : UInt8))) 0 hlt hn
    generalize hb : s.getD j 0 = b at f1 f2
    have hb2 : (((b.toNat : Int)) == 46) = (b == 46) := by
      rw [Bool.eq_iff_iff, beq_iff_eq, beq_iff_eq]
      constructor
      · intro h; exact UInt8.toNat_inj.1 (by simp; omega)
      · rintro rfl; rfl
    simp only [go_sem, hd, w1, hb, hb2, Int.toNat_natCast, Try.results64]
    refine ⟨by omega, fun c => ⟨by omega, by omega, _, _, Weak.refl _ _ _ _, h1 _ _ ?_⟩, fun c => ?_⟩
    · unfold splitM; rw [f1 c]
    · exact Wk.mask [0, 5] ⟨s.length - (j + 1), by omega, j + 1, hlt, rfl, f2 c, rfl, rfl⟩
  · have hd : decide ((j : Int) < (s.length : Int)) = false := by simp; omega
    rw [List.take_of_length_le hge] at hn
    simp only [go_sem, hd, Try.results64]
    refine ⟨_, _, Weak.refl _ _ _ _, h2 ?_⟩
    unfold splitM; rw [hn]
end Go.Proofs.Ytfoblkeefpaceaa
end PartS1

section PartS2
/- Names: the first declaration with a name. -/
set_option linter.unusedSimpArgs false
set_option linter.unusedVariables false
set_option maxRecDepth 100000
namespace Go.Proofs.Ytfoblkeefpaceaa
open Go Go.Ab

/-- Sizes that fit a machine. -/
inductive Nd.Ok : Nd → Prop
  | mk {e : Nd} (h : e.kids.length ≤ reachBytes) (hn : e.name.length ≤ reachBytes) (h1 : I64 e.n) (hk : ∀ k ∈ e.kids, k.Ok) : e.Ok
theorem Nd.Ok.len {e : Nd} (h : e.Ok) : e.kids.length ≤ reachBytes := by cases h; assumption
theorem Nd.Ok.nm {e : Nd} (h : e.Ok) : e.name.length ≤ reachBytes := by cases h; assumption
theorem Nd.Ok.num {e : Nd} (h : e.Ok) : I64 e.n := by cases h; assumption
theorem Nd.none_ok : Nd.none.Ok := .mk (by decide) (by decide) (by unfold I64; decide) (fun k hk => by cases hk)
theorem Nd.Ok.kid {e : Nd} (h : e.Ok) (i : Nat) : (e.kid i).Ok := by
  unfold Nd.kid
  rcases Nat.lt_or_ge i e.kids.length with hi | hi
  · cases h with | mk _ _ _ hk => exact hk _ (getD_mem _ hi)
  · rw [List.getD_eq_getElem?_getD, List.getElem?_eq_none hi]; exact Nd.none_ok
structure Vr.Ok (v : Vr) : Prop where
  w : I64 v.w
  len : I64 v.len
structure Pr.Ok (p : Pr) : Prop where
  params : p.params.length ≤ reachBytes
  locals : p.locals.length ≤ reachBytes
  vp : ∀ v ∈ p.params, v.Ok
  vl : ∀ v ∈ p.locals, v.Ok
  body : p.body.Ok
structure Mo.Ok (m : Mo) : Prop where
  rely : m.rely.Ok
  guar : m.guar.Ok
  len : m.frame.length ≤ reachBytes
  frame : ∀ e ∈ m.frame, e.Ok
structure Sy.Ok (S : Sy) : Prop where
  mods : S.mods.length ≤ reachBytes
  vars : S.vars.length ≤ reachBytes
  locks : S.locks.length ≤ reachBytes
  procs : S.procs.length ≤ reachBytes
  threads : S.threads.length ≤ reachBytes
  mo : ∀ m ∈ S.mods, m.Ok
  va : ∀ v ∈ S.vars, v.Ok
  lo : ∀ l ∈ S.locks, l.inv.Ok
  pr : ∀ p ∈ S.procs, p.Ok
def idxR (o : Option Nat) : A := match o with
  | some i => .tup [dn i, db true]
  | none => .tup [di 0, db false]
theorem find_ac (l : List Vr) (hl : l.length ≤ reachBytes) (s : Str) (σ : St) (G : Glob) (R : A → St → Prop) (h : R (idxR (findV l s)) σ) : AC Try.prog G 73 [.d (vrsD l), .d (.str s)] σ R := by
  have hre : reachBytes < 9223372036854775806 := by decide
  unfold vrsD
  refine ac_enter mixed Try.func73 rfl Try.ntmps73 (by simp only [go_sem]) fun hbd => ?_
  simp only [List.length_cons, List.length_nil, Nat.reduceAdd, Nat.reduceSub, List.replicate_succ, List.replicate_zero, List.cons_append, List.nil_append]
  simp only [go_sem, List.length_map, Try.results73]
  refine aw_loop (fun m fr st => ∃ j : Nat, j ≤ l.length ∧ m = l.length - j ∧ (l.take j).findIdx? (fun v => v.name == s) = none ∧ fr = [.any, .d (.str s), .any, .any, .any, .any, .any, .any, .d (.sl 7 (l.map vrD)), dn l.length, dn j, .any, .any, .any, .any, .any, .any, .any, .any, .any, .any] ∧ st = σ) l.length _
    (Wk.mask [1, 8, 9, 10] ⟨0, by omega, by omega, rfl, rfl, rfl⟩) ?_
  rintro m fr st ⟨j, hj, hm, hn, rfl, rfl⟩
  rcases Nat.lt_or_ge j l.length with hlt | hge
  · have hd : decide ((j : Int) < (l.length : Int)) = true := by simp; omega
    have e1 := vr_d hlt
    have w1 := wrapS j (by omega)
    obtain ⟨f1, f2⟩ := find_step (p := fun v : Vr => v.name == s) vr0 hlt hn
    simp only [go_sem, List.length_map, hd, e1, w1, Try.results73]
    refine ⟨⟨by omega, by omega⟩, fun c => ?_, fun c => ?_⟩
    · have : findV l s = some j := f1 c
      rw [this] at h
      exact ret_bd hbd rfl h
    · exact Wk.cut [1, 8, 9, 10] (Nat.le_refl _) hbd rfl ⟨l.length - (j + 1), by omega, j + 1, hlt, rfl, f2 c, rfl, rfl⟩
  · have hd : decide ((j : Int) < (l.length : Int)) = false := by simp; omega
    rw [List.take_of_length_le hge] at hn
    simp only [go_sem, hd, Try.results73]
    have : findV l s = none := hn
    rw [this] at h
    exact ⟨_, _, Weak.refl _ _ _ _, h⟩
theorem shared_ac (S : Sy) (hS : S.Ok) (m : Int) (s : Str) (σ : St) (G : Glob) (R : A → St → Prop) (h : R (idxR (sharedM S m s)) σ) : AC Try.prog G 74 [.d (syD S), di m, .d (.str s)] σ R := by
  have hre : reachBytes < 9223372036854775806 := by decide
  have hl := hS.vars
  unfold syD Sy.cs vrsD
  refine ac_enter mixed Try.func74 rfl Try.ntmps74 (by simp only [go_sem]) fun hbd => ?_
  simp only [List.length_cons, List.length_nil, Nat.reduceAdd, Nat.reduceSub, List.replicate_succ, List.replicate_zero, List.cons_append, List.nil_append]
  simp only [go_sem, List.length_map, Try.results74]
  refine aw_loop (fun q fr st => ∃ j : Nat, j ≤ S.vars.length ∧ q = S.vars.length - j ∧ (S.vars.take j).findIdx? (fun v => v.mod == m && v.name == s) = none ∧ fr = [.any, di m, .d (.str s), .any, .any, .any, .any, .any, .any, .any, .any, .d (.sl 7 (S.vars.map vrD)), dn S.vars.length, dn j, .any, .any, .any, .any, .any, .any, .any, .any, .any, .any, .any, .any, .any, .any, .any, .any] ∧ st = σ) S.vars.length _
    (Wk.cut [1, 2, 11, 12, 13] (Nat.le_refl _) hbd rfl ⟨0, by omega, by omega, rfl, rfl, rfl⟩) ?_
  rintro q fr st ⟨j, hj, hm, hn, rfl, rfl⟩
  rcases Nat.lt_or_ge j S.vars.length with hlt | hge
  · have hd : decide ((j : Int) < (S.vars.length : Int)) = true := by simp; omega
    have e1 := vr_d hlt
    have w1 := wrapS j (by omega)
    obtain ⟨f1, f2⟩ := find_step (p := fun v : Vr => v.mod == m && v.name == s) vr0 hlt hn
    simp only [go_sem, List.length_map, hd, e1, w1, Try.results74]
    refine ⟨⟨by omega, by omega⟩, fun c => ?_, fun c => ?_⟩
    · have : sharedM S m s = some j := f1 c
      rw [this] at h
      exact ret_bd hbd rfl h
    · exact Wk.cut [1, 2, 11, 12, 13] (Nat.le_refl _) hbd rfl ⟨S.vars.length - (j + 1), by omega, j + 1, hlt, rfl, f2 c, rfl, rfl⟩
  · have hd : decide ((j : Int) < (S.vars.length : Int)) = false := by simp; omega
    rw [List.take_of_length_le hge] at hn
    simp only [go_sem, hd, Try.results74]
    have : sharedM S m s = none := hn
    rw [this] at h
    exact ⟨_, _, Weak.refl _ _ _ _, h⟩
theorem mo_d {l : List Mo} {i : Nat} (h : i < l.length) : List.getD (l.map moD) i default = moD (l.getD i ⟨[], [], Nd.none, Nd.none, [], 0⟩) := by
  rw [getD_mapD (d := ⟨[], [], Nd.none, Nd.none, [], 0⟩) h]
theorem module_ac (S : Sy) (hS : S.Ok) (s : Str) (σ : St) (G : Glob) (R : A → St → Prop) (h : R (idxR (modM S s)) σ) : AC Try.prog G 76 [.d (syD S), .d (.str s)] σ R := by
  have hre : reachBytes < 9223372036854775806 := by decide
  have hl := hS.mods
  unfold syD Sy.cs
  refine ac_enter mixed Try.func76 rfl Try.ntmps76 (by simp only [go_sem]) fun hbd => ?_
  simp only [List.length_cons, List.length_nil, Nat.reduceAdd, Nat.reduceSub, List.replicate_succ, List.replicate_zero, List.cons_append, List.nil_append]
  simp only [go_sem, List.length_map, Try.results76]
  refine aw_loop (fun q fr st => ∃ j : Nat, j ≤ S.mods.length ∧ q = S.mods.length - j ∧ (S.mods.take j).findIdx? (fun v => v.name == s) = none ∧ fr = [.any, .d (.str s), .any, .any, .any, .any, .any, .any, .any, .d (.sl 22 (S.mods.map moD)), dn S.mods.length, dn j, .any, .any, .any, .any, .any, .any, .any, .any, .any, .any] ∧ st = σ) S.mods.length _
    (Wk.cut [1, 9, 10, 11] (Nat.le_refl _) hbd rfl ⟨0, by omega, by omega, rfl, rfl, rfl⟩) ?_
  rintro q fr st ⟨j, hj, hm, hn, rfl, rfl⟩
  rcases Nat.lt_or_ge j S.mods.length with hlt | hge
  · have hd : decide ((j : Int) < (S.mods.length : Int)) = true := by simp; omega
    have e1 := mo_d hlt
    have w1 := wrapS j (by omega)
    obtain ⟨f1, f2⟩ := find_step (p := fun v : Mo => v.name == s) ⟨[], [], Nd.none, Nd.none, [], 0⟩ hlt hn
    generalize S.mods.getD j ⟨[], [], Nd.none, Nd.none, [], 0⟩ = v at e1 f1 f2
    simp only [moD, Nd.cs, List.cons_append, List.nil_append] at e1
    simp only [go_sem, List.length_map, hd, e1, w1, Try.results76]
    refine ⟨⟨by omega, by omega⟩, fun c => ?_, fun c => ?_⟩
    · have : modM S s = some j := f1 c
      rw [this] at h
      exact ret_bd hbd rfl h
    · exact Wk.cut [1, 9, 10, 11] (Nat.le_refl _) hbd rfl ⟨S.mods.length - (j + 1), by omega, j + 1, hlt, rfl, f2 c, rfl, rfl⟩
  · have hd : decide ((j : Int) < (S.mods.length : Int)) = false := by simp; omega
    rw [List.take_of_length_le hge] at hn
    simp only [go_sem, hd, Try.results76]
    have : modM S s = none := hn
    rw [this] at h
    exact ⟨_, _, Weak.refl _ _ _ _, h⟩
end Go.Proofs.Ytfoblkeefpaceaa
end PartS2

section PartS3
/- Names: what a path stands for in a place. -/
set_option linter.unusedSimpArgs false
set_option linter.unusedVariables false
set_option maxRecDepth 100000
namespace Go.Proofs.Ytfoblkeefpaceaa
open Go Go.Ab

def pr0 : Pr := ⟨[], 0, [], [], [], Nd.none, [], 0⟩
theorem pr_d {l : List Pr} {i : Nat} (h : i < l.length) : List.getD (l.map prD) i default = prD (l.getD i pr0) := by
  rw [getD_mapD (d := pr0) h]
theorem procin_ac (S : Sy) (hS : S.Ok) (m : Int) (s : Str) (σ : St) (G : Glob) (R : A → St → Prop) (h : R (idxR (procInM S m s)) σ) : AC Try.prog G 93 [.d (syD S), di m, .d (.str s)] σ R := by
  have hre : reachBytes < 9223372036854775806 := by decide
  have hl := hS.procs
  unfold syD Sy.cs
  refine ac_enter mixed Try.func93 rfl Try.ntmps93 (by simp only [go_sem]) fun hbd => ?_
  simp only [List.length_cons, List.length_nil, Nat.reduceAdd, Nat.reduceSub, List.replicate_succ, List.replicate_zero, List.cons_append, List.nil_append]
  simp only [go_sem, List.length_map, Try.results93]
  refine aw_loop (fun q fr st => ∃ j : Nat, j ≤ S.procs.length ∧ q = S.procs.length - j ∧ (S.procs.take j).findIdx? (fun v => v.mod == m && v.name == s) = none ∧ fr = [.any, di m, .d (.str s), .any, .any, .any, .any, .any, .any, .any, .any, .d (.sl 16 (S.procs.map prD)), dn S.procs.length, dn j, .any, .any, .any, .any, .any, .any, .any, .any, .any, .any, .any, .any, .any, .any, .any, .any] ∧ st = σ) S.procs.length _
    (Wk.cut [1, 2, 11, 12, 13] (Nat.le_refl _) hbd rfl ⟨0, by omega, by omega, rfl, rfl, rfl⟩) ?_
  rintro q fr st ⟨j, hj, hm, hn, rfl, rfl⟩
  rcases Nat.lt_or_ge j S.procs.length with hlt | hge
  · have hd : decide ((j : Int) < (S.procs.length : Int)) = true := by simp; omega
    have e1 := pr_d hlt
    have w1 := wrapS j (by omega)
    obtain ⟨f1, f2⟩ := find_step (p := fun v : Pr => v.mod == m && v.name == s) pr0 hlt hn
    generalize S.procs.getD j pr0 = v at e1 f1 f2
    simp only [prD, vrsD, isD, Nd.cs, List.cons_append, List.nil_append] at e1
    simp only [go_sem, List.length_map, hd, e1, w1, Try.results93]
    refine ⟨⟨by omega, by omega⟩, fun c => ?_, fun c => ?_⟩
    · have : procInM S m s = some j := f1 c
      rw [this] at h
      exact ret_bd hbd rfl h
    · exact Wk.cut [1, 2, 11, 12, 13] (Nat.le_refl _) hbd rfl ⟨S.procs.length - (j + 1), by omega, j + 1, hlt, rfl, f2 c, rfl, rfl⟩
  · have hd : decide ((j : Int) < (S.procs.length : Int)) = false := by simp; omega
    rw [List.take_of_length_le hge] at hn
    simp only [go_sem, hd, Try.results93]
    have : procInM S m s = none := hn
    rw [this] at h
    exact ⟨_, _, Weak.refl _ _ _ _, h⟩
def tgA : Tg → A
  | .bad => .tup [.d (.agg [iD 0, iD 0]), di 1]
  | .no => .tup [.d (.agg [iD 0, iD 0]), di 40]
  | .at_ k i => .tup [.d (.agg [iD k, iD i]), di 0]
theorem prAt_lt {S : Sy} {p : Int} (h0 : 0 ≤ p) (h1 : p < S.procs.length) : prAt S p = some (S.procs.getD p.toNat pr0) := by
  unfold prAt
  rw [if_pos h0, List.getD_eq_getElem?_getD, List.getElem?_eq_getElem (by omega)]; rfl
theorem split_len {s a b : Str} (h : splitM s = some (a, b)) : a.length ≤ s.length ∧ b.length ≤ s.length := by
  unfold splitM at h
  split at h
  · injection h with h; injection h with h1 h2; subst h1; subst h2; simp; omega
  · cases h
set_option maxHeartbeats 4000000 in
theorem look_ac (S : Sy) (hS : S.Ok) (m p : Int) (s : Str) (hs : s.length ≤ reachBytes) (σ : St) (G : Glob) (R : A → St → Prop) (h : R (tgA (lookM S m p s)) σ) : AC Try.prog G 62 [.d (syD S), di m, di p, .d (.str s)] σ R := by
  have hre : reachBytes < 9223372036854775806 := by decide
  have hl := hS.procs
  have hsy : syD S = .agg [.sl 22 (S.mods.map moD), vrsD S.vars, .sl 12 (S.locks.map lkD), .sl 16 (S.procs.map prD), .sl 5 (S.threads.map thD)] := rfl
  rw [hsy]
  refine ac_enterC [13] mixed Try.func62 rfl Try.ntmps62 (by simp only [go_sem]) fun hbd => ?_
  simp only [List.length_cons, List.length_nil, Nat.reduceAdd, Nat.reduceSub, List.replicate_succ, List.replicate_zero, List.cons_append, List.nil_append]
  by_cases hg : (decide (m < 0) || decide ((S.mods.length : Int) ≤ m) || decide (p < -1) || decide ((S.procs.length : Int) ≤ p)) = true
  · have hbad : lookM S m p s = .bad := by
      unfold lookM placeM inMods
      rw [if_neg]
      simp only [Bool.or_eq_true, decide_eq_true_eq] at hg
      simp only [Bool.and_eq_true, decide_eq_true_eq, not_and]
      omega
    rw [hbad] at h
    simp only [go_sem, List.length_map, hg, Try.results62]
    exact ret_bd hbd rfl h
  have hg' : (decide (m < 0) || decide ((S.mods.length : Int) ≤ m) || decide (p < -1) || decide ((S.procs.length : Int) ≤ p)) = false := by simpa only [Bool.not_eq_true] using hg
  have hin : inMods S m = true ∧ (-1 ≤ p ∧ p < S.procs.length) := by
    unfold inMods
    simp only [Bool.or_eq_false_iff, decide_eq_false_iff_not] at hg'
    simp only [decide_eq_true_eq]
    omega
  obtain ⟨hin1, hin2, hin3⟩ := hin
  simp only [go_sem, List.length_map, hg', Try.results62]
  refine aw_cut (fun fr st => lookM S m p s = sharedT S m s ∧ ∃ l, fr = [.any, di m, .any, .d (.str s), .ref σ.length 0, .any, .any, .any, .ref (σ.length + 1) 0, .any, .any, .any, .any, .any, .any, .any, .any, .any, .any, .any, .any, .any, .any, .any, .any, .any, .any, .any, .any, .any, .any, .any, .any, .any, .any, .any, .any, .any, .any, .any, .any, .any, .any, .any, .any, .any, .any, .any, .any, .any, .any, .any, .any, .any, .any, .any, .any, .any, .any, .any, .any, .any, .any, .any, .any, .any, .any, .any, .any, .any, .any, .any, .any, .any, .any, .any, .any, .any, .any, .any, .any, .any, .any, .any, .any, .any, .any, .any, .any, .any, .any, .any, .any, .any, .any, .any, .any, .any, .any, .any, .any, .any, .any, .any, .any, .any, .any, .any, .any, .any, .any, .any] ∧
    st = σ ++ (some (.cells [.d (.sl 22 (S.mods.map moD)), .d (vrsD S.vars), .d (.sl 12 (S.locks.map lkD)), .d (.sl 16 (S.procs.map prD)), .d (.sl 5 (S.threads.map thD))]) :: some (.cells [di 0, di 0]) :: l)) ?_ ?_
  · rcases Int.lt_or_le p 0 with hneg | hpos
    · have hd : decide (0 ≤ p) = false := by simpa using hneg
      have hpr : prAt S p = none := by unfold prAt; rw [if_neg (by omega)]
      simp only [go_sem, List.length_map, hg', hd, Try.results62]
      refine Wk.mask [1, 3, 4, 8] ⟨?_, [], rfl, rfl⟩
      unfold lookM placeM
      rw [hin1, hpr, if_pos (by simp; omega)]
    · have hd : decide (0 ≤ p) = true := by simpa using hpos
      have hpr := prAt_lt hpos hin3
      have e1 := pr_d (l := S.procs) (i := p.toNat) (by omega)
      have hq : (S.procs.getD p.toNat pr0).Ok := hS.pr _ (getD_mem _ (by omega))
      generalize S.procs.getD p.toNat pr0 = q at e1 hpr hq
      simp only [prD, vrsD, isD, Nd.cs, List.cons_append, List.nil_append] at e1
      by_cases hm : q.mod = m
      · have hm1 : (q.mod != m) = false := by simpa using hm
        have hlk : lookM S m p s = match findV q.params s with | some i => .at_ 2 i | none => match findV q.locals s with | some i => .at_ 3 i | none => sharedT S m s := by
          unfold lookM placeM
          rw [hin1, hpr, if_pos (by simp; exact ⟨⟨by omega, by omega⟩, hm⟩)]
          rfl
        simp only [go_sem, List.length_map, hg', hd, e1, hm1, Try.results62]
        refine ⟨⟨by omega, by omega⟩, ac' ?_⟩
        rw [← vrsD]
        refine find_ac _ hq.params _ _ _ _ ?_
        cases hf1 : findV q.params s with
        | some i =>
          rw [hlk, hf1] at h
          simp only [idxR, go_sem, Try.results62]
          exact ret_bd hbd rfl h
        | none =>
          simp only [idxR, go_sem, Try.results62]
          refine ac' ?_
          rw [← vrsD]
          refine find_ac _ hq.locals _ _ _ _ ?_
          cases hf2 : findV q.locals s with
          | some i =>
            rw [hlk, hf1, hf2] at h
            simp only [idxR, go_sem, Try.results62]
            exact ret_bd hbd rfl h
          | none =>
            rw [hf1, hf2] at hlk
            simp only [idxR, go_sem, Try.results62]
            exact Wk.mask [1, 3, 4, 8] ⟨hlk, _, rfl, rfl⟩
      · have hm1 : (q.mod != m) = true := by simpa using hm
        have hlk : lookM S m p s = .bad := by
          unfold lookM placeM
          rw [hin1, hpr, if_neg (by simp; intro _ _; exact hm)]
        rw [hlk] at h
        simp only [go_sem, List.length_map, hg', hd, e1, hm1, Try.results62]
        exact ⟨⟨by omega, by omega⟩, ret_bd hbd rfl h⟩
  · rintro fr st ⟨hlk, l, rfl, rfl⟩
    rw [hlk] at h
    simp only [go_sem, Try.results62]
    rw [← hsy]
    refine ac' (shared_ac S hS _ _ _ _ _ ?_)
    cases hf : sharedM S m s with
    | some i =>
      have ht : sharedT S m s = .at_ 1 i := by unfold sharedT; rw [hf]
      rw [ht] at h
      simp only [idxR, go_sem, Try.results62]
      exact ret_bd hbd rfl h
    | none =>
      simp only [idxR, go_sem, Try.results62]
      refine ac' (cut_ac s hs _ _ _ (fun a b hab => ?_) fun hab => ?_)
      · obtain ⟨hla, hlb⟩ := split_len hab
        simp only [go_sem, Try.results62]
        rw [← hsy]
        refine ac' (module_ac S hS _ _ _ _ ?_)
        cases ho : modM S a with
        | none =>
          have ht : sharedT S m s = .no := by unfold sharedT dottedM; rw [hf, hab]; simp only; rw [ho]
          rw [ht] at h
          simp only [idxR, go_sem, Try.results62]
          exact ret_bd hbd rfl h
        | some o =>
          simp only [idxR, go_sem, Try.results62]
          rw [← hsy]
          refine ac' (shared_ac S hS _ _ _ _ _ ?_)
          cases hf2 : sharedM S o b with
          | some i =>
            have ht : sharedT S m s = .at_ 1 i := by unfold sharedT dottedM; rw [hf, hab]; simp only; rw [ho]; simp only; rw [hf2]
            rw [ht] at h
            simp only [idxR, go_sem, Try.results62]
            exact ret_bd hbd rfl h
          | none =>
            have ht : sharedT S m s = .no := by unfold sharedT dottedM; rw [hf, hab]; simp only; rw [ho]; simp only; rw [hf2]
            rw [ht] at h
            simp only [idxR, go_sem, Try.results62]
            exact ret_bd hbd rfl h
      · have ht : sharedT S m s = .no := by unfold sharedT dottedM; rw [hf, hab]
        rw [ht] at h
        simp only [idxR, go_sem, Try.results62]
        exact ret_bd hbd rfl h
def prR (o : Option Nat) : A := match o with
  | some i => .tup [dn i, di 0]
  | none => .tup [di 0, di 40]
set_option maxHeartbeats 4000000 in
theorem procof_ac (S : Sy) (hS : S.Ok) (m : Int) (hm : inMods S m = true) (s : Str) (hs : s.length ≤ reachBytes) (σ : St) (G : Glob) (R : A → St → Prop) (h : R (prR (procOfM S m s)) σ) : AC Try.prog G 91 [.d (syD S), di m, .d (.str s)] σ R := by
  have hsy : syD S = .agg [.sl 22 (S.mods.map moD), vrsD S.vars, .sl 12 (S.locks.map lkD), .sl 16 (S.procs.map prD), .sl 5 (S.threads.map thD)] := rfl
  rw [hsy]
  unfold inMods at hm
  have hm := of_decide_eq_true hm
  have hg : (decide (m < -1) || decide ((S.mods.length : Int) ≤ m)) = false := by simp; omega
  have hd : decide (0 ≤ m) = true := by simp; omega
  have hpo : procOfM S m s = match procInM S m s with | some i => some i | none => match dottedM S s with | some (o, r) => procInM S o r | none => none := by
    unfold procOfM; rw [if_pos (by omega)]; rfl
  refine ac_enter mixed Try.func91 rfl Try.ntmps91 (by simp only [go_sem]) fun hbd => ?_
  simp only [List.length_cons, List.length_nil, Nat.reduceAdd, Nat.reduceSub, List.replicate_succ, List.replicate_zero, List.cons_append, List.nil_append]
  simp only [go_sem, List.length_map, hg, hd, Try.results91]
  rw [← hsy]
  refine ac' (procin_ac S hS _ _ _ _ _ ?_)
  cases hf : procInM S m s with
  | some i =>
    rw [hpo, hf] at h
    simp only [idxR, go_sem, Try.results91]
    exact ret_bd hbd rfl h
  | none =>
    rw [hf] at hpo
    simp only [idxR, go_sem, Try.results91]
    refine ac' (cut_ac s hs _ _ _ (fun a b hab => ?_) fun hab => ?_)
    · simp only [go_sem, Try.results91]
      rw [← hsy]
      refine ac' (module_ac S hS _ _ _ _ ?_)
      cases ho : modM S a with
      | none =>
        have ht : procOfM S m s = none := by rw [hpo]; unfold dottedM; rw [hab]; simp only; rw [ho]
        rw [ht] at h
        simp only [idxR, go_sem, Try.results91]
        exact ret_bd hbd rfl h
      | some o =>
        simp only [idxR, go_sem, Try.results91]
        rw [← hsy]
        refine ac' (procin_ac S hS _ _ _ _ _ ?_)
        have ht : procOfM S m s = procInM S o b := by rw [hpo]; unfold dottedM; rw [hab]; simp only; rw [ho]
        cases hf2 : procInM S o b with
        | some i =>
          rw [ht, hf2] at h
          simp only [idxR, go_sem, Try.results91]
          exact ret_bd hbd rfl h
        | none =>
          rw [ht, hf2] at h
          simp only [idxR, go_sem, Try.results91]
          exact ret_bd hbd rfl h
    · have ht : procOfM S m s = none := by rw [hpo]; unfold dottedM; rw [hab]
      rw [ht] at h
      simp only [idxR, go_sem, Try.results91]
      exact ret_bd hbd rfl h
end Go.Proofs.Ytfoblkeefpaceaa
end PartS3

section PartS4
/- The reference's names. -/
set_option linter.unusedSimpArgs false
set_option linter.unusedVariables false
set_option maxRecDepth 100000
namespace Go.Proofs.Ytfoblkeefpaceaa
open Go Go.Ab

def tgR (k : Int) (o : Option Nat) : A := match o with
  | some i => .tup [.d (.agg [iD k, iD i]), db true]
  | none => .tup [.d (.agg [iD 0, iD 0]), db false]
theorem vr_nm {l : List Vr} {i : Nat} (h : i < l.length) : (l.map vrD).getD i default = vrD (l.getD i vr0) := getD_mapD (d := vr0) h
theorem among_ac (l : List Vr) (hl : l.length ≤ reachBytes) (k : Int) (s : Str) (σ : St) (G : Glob) (R : A → St → Prop) (h : R (tgR k (findV l s)) σ) : AC Try.prog G 44 [.d (vrsD l), di k, .d (.str s)] σ R := by
  have hre : reachBytes < 9223372036854775806 := by decide
  unfold vrsD
  refine ac_enter mixed Try.func44 rfl Try.ntmps44 (by simp only [go_sem]) fun hbd => ?_
  simp only [List.length_cons, List.length_nil, Nat.reduceAdd, Nat.reduceSub, List.replicate_succ, List.replicate_zero, List.cons_append, List.nil_append]
  simp only [go_sem, Try.results44]
  refine aw_loop (fun m fr st => ∃ j : Nat, j ≤ l.length ∧ m = l.length - j ∧ (l.take j).findIdx? (fun v => v.name == s) = none ∧ fr = [.d (.sl 7 (l.map vrD)), di k, .d (.str s), .any, .any, .any, .ref σ.length 0, .any, dn j, .any, .any, .any, .any, .any, .any, .any, .any, .any, .any, .any, .any, .any, .any, .any, .any, .any] ∧ st = σ ++ [some (.cells [di 0, di 0])]) l.length _
    (Wk.mask [0, 1, 2, 6, 8] ⟨0, by omega, by omega, rfl, rfl, rfl⟩) ?_
  rintro m fr st ⟨j, hj, hm, hn, rfl, rfl⟩
  rcases Nat.lt_or_ge j l.length with hlt | hge
  · have hd : decide ((j : Int) < (l.length : Int)) = true := by simp; omega
    have e1 := vr_d hlt
    have w1 := wrapS j (by omega)
    obtain ⟨f1, f2⟩ := find_step (p := fun v : Vr => v.name == s) vr0 hlt hn
    simp only [go_sem, List.length_map, hd, e1, w1, Try.results44]
    refine ⟨⟨by omega, by omega⟩, fun c => ?_, fun c => ?_⟩
    · have : findV l s = some j := f1 c
      rw [this] at h
      exact ret_bd hbd rfl h
    · exact Wk.mask [0, 1, 2, 6, 8] ⟨l.length - (j + 1), by omega, j + 1, hlt, rfl, f2 c, rfl, rfl⟩
  · have hd : decide ((j : Int) < (l.length : Int)) = false := by simp; omega
    rw [List.take_of_length_le hge] at hn
    simp only [go_sem, List.length_map, hd, Try.results44]
    have : findV l s = none := hn
    rw [this] at h
    exact ret_bd hbd rfl h
theorem rshared_ac (S : Sy) (hS : S.Ok) (m : Int) (s : Str) (σ : St) (G : Glob) (R : A → St → Prop) (h : R (tgR 1 (sharedM S m s)) σ) : AC Try.prog G 45 [.d (syD S), di m, .d (.str s)] σ R := by
  have hre : reachBytes < 9223372036854775806 := by decide
  have hl := hS.vars
  have hsy : syD S = .agg [.sl 22 (S.mods.map moD), .sl 7 (S.vars.map vrD), .sl 12 (S.locks.map lkD), .sl 16 (S.procs.map prD), .sl 5 (S.threads.map thD)] := rfl
  rw [hsy]
  refine ac_enter mixed Try.func45 rfl Try.ntmps45 (by simp only [go_sem]) fun hbd => ?_
  simp only [List.length_cons, List.length_nil, Nat.reduceAdd, Nat.reduceSub, List.replicate_succ, List.replicate_zero, List.cons_append, List.nil_append]
  simp only [go_sem, List.length_map, Try.results45]
  refine aw_loop (fun q fr st => ∃ j : Nat, j ≤ S.vars.length ∧ q = S.vars.length - j ∧ (S.vars.take j).findIdx? (fun v => v.mod == m && v.name == s) = none ∧ fr = [.any, di m, .d (.str s), .ref σ.length 0, .any, .any, .ref (σ.length + 1) 0, .any, dn j, .any, .any, .any, .any, .any, .any, .any, .any, .any, .any, .any, .any, .any, .any, .any, .any, .any, .any, .any, .any, .any, .any, .any, .any, .any, .any, .any, .any] ∧
    st = σ ++ [some (.cells [.d (.sl 22 (S.mods.map moD)), .d (.sl 7 (S.vars.map vrD)), .d (.sl 12 (S.locks.map lkD)), .d (.sl 16 (S.procs.map prD)), .d (.sl 5 (S.threads.map thD))]), some (.cells [di 0, di 0])]) S.vars.length _
    (Wk.mask [1, 2, 3, 6, 8] ⟨0, by omega, by omega, rfl, rfl, rfl⟩) ?_
  rintro q fr st ⟨j, hj, hm, hn, rfl, rfl⟩
  rcases Nat.lt_or_ge j S.vars.length with hlt | hge
  · have hd : decide ((j : Int) < (S.vars.length : Int)) = true := by simp; omega
    have e1 := vr_d hlt
    have w1 := wrapS j (by omega)
    obtain ⟨f1, f2⟩ := find_step (p := fun v : Vr => v.mod == m && v.name == s) vr0 hlt hn
    have hb : (0 : Int) ≤ j ∧ (j : Int) < S.vars.length := ⟨by omega, by omega⟩
    simp only [go_sem, List.length_map, hd, e1, w1, Try.results45]
    refine ⟨⟨by omega, by omega⟩, fun _ => ⟨by omega, by omega⟩, fun c => ?_, fun c => ?_⟩
    · have : sharedM S m s = some j := f1 c
      rw [this] at h
      exact ret_bd hbd rfl h
    · exact Wk.mask [1, 2, 3, 6, 8] ⟨S.vars.length - (j + 1), by omega, j + 1, hlt, rfl, f2 c, rfl, rfl⟩
  · have hd : decide ((j : Int) < (S.vars.length : Int)) = false := by simp; omega
    rw [List.take_of_length_le hge] at hn
    simp only [go_sem, List.length_map, hd, Try.results45]
    have : sharedM S m s = none := hn
    rw [this] at h
    exact ret_bd hbd rfl h
def otR (o : Option (Nat × Str)) : A := match o with
  | some (i, r) => .tup [dn i, .d (.str r), db true]
  | none => .tup [di 0, .d (.str []), db false]
theorem other_ac (S : Sy) (hS : S.Ok) (s : Str) (hs : s.length ≤ reachBytes) (σ : St) (G : Glob) (R : A → St → Prop) (h : R (otR (dottedM S s)) σ) : AC Try.prog G 46 [.d (syD S), .d (.str s)] σ R := by
  have hre : reachBytes < 9223372036854775806 := by decide
  have hl := hS.mods
  have hsy : syD S = .agg [.sl 22 (S.mods.map moD), vrsD S.vars, .sl 12 (S.locks.map lkD), .sl 16 (S.procs.map prD), .sl 5 (S.threads.map thD)] := rfl
  rw [hsy]
  refine ac_enter mixed Try.func46 rfl Try.ntmps46 (by simp only [go_sem]) fun hbd => ?_
  simp only [List.length_cons, List.length_nil, Nat.reduceAdd, Nat.reduceSub, List.replicate_succ, List.replicate_zero, List.cons_append, List.nil_append]
  simp only [go_sem, List.length_map, Try.results46]
  refine ac' (split_ac s hs _ _ _ (fun a b hab => ?_) fun hab => ?_)
  · have hdo : dottedM S s = match modM S a with | some m => some (m, b) | none => none := by unfold dottedM; rw [hab]; rfl
    simp only [go_sem, List.length_map, Try.results46]
    refine aw_loop (fun q fr st => ∃ j : Nat, j ≤ S.mods.length ∧ q = S.mods.length - j ∧ (S.mods.take j).findIdx? (fun v => v.name == a) = none ∧ fr = [.any, .any, .ref σ.length 0, .any, .any, .any, .any, .d (.str a), .d (.str b), db true, dn j, .any, .any, .any, .any, .any, .any, .any, .any, .any, .any, .any, .any, .any, .any, .any, .any, .any, .any, .any, .any, .any, .any, .any, .any, .any, .any] ∧
      st = σ ++ [some (.cells [.d (.sl 22 (S.mods.map moD)), .d (vrsD S.vars), .d (.sl 12 (S.locks.map lkD)), .d (.sl 16 (S.procs.map prD)), .d (.sl 5 (S.threads.map thD))])]) S.mods.length _
      (Wk.mask [2, 7, 8, 9, 10] ⟨0, by omega, by omega, rfl, rfl, rfl⟩) ?_
    rintro q fr st ⟨j, hj, hm, hn, rfl, rfl⟩
    rcases Nat.lt_or_ge j S.mods.length with hlt | hge
    · have hd : decide ((j : Int) < (S.mods.length : Int)) = true := by simp; omega
      have e1 := mo_d hlt
      have w1 := wrapS j (by omega)
      obtain ⟨f1, f2⟩ := find_step (p := fun v : Mo => v.name == a) ⟨[], [], Nd.none, Nd.none, [], 0⟩ hlt hn
      generalize S.mods.getD j ⟨[], [], Nd.none, Nd.none, [], 0⟩ = v at e1 f1 f2
      simp only [moD, Nd.cs, List.cons_append, List.nil_append] at e1
      simp only [go_sem, List.length_map, hd, e1, w1, Try.results46]
      refine ⟨⟨by omega, by omega⟩, fun c => ?_, fun c => ?_⟩
      · have : modM S a = some j := f1 c
        rw [hdo, this] at h
        exact ret_bd hbd rfl h
      · exact Wk.mask [2, 7, 8, 9, 10] ⟨S.mods.length - (j + 1), by omega, j + 1, hlt, rfl, f2 c, rfl, rfl⟩
    · have hd : decide ((j : Int) < (S.mods.length : Int)) = false := by simp; omega
      rw [List.take_of_length_le hge] at hn
      simp only [go_sem, List.length_map, hd, Try.results46]
      have : modM S a = none := hn
      rw [hdo, this] at h
      exact ret_bd hbd rfl h
  · have hdo : dottedM S s = none := by unfold dottedM; rw [hab]
    rw [hdo] at h
    simp only [go_sem, List.length_map, Try.results46]
    refine aw_loop (fun q fr st => fr = [.any, .any, .ref σ.length 0, .any, .any, .any, .any, .d (.str []), .d (.str []), db false, dn 0, .any, .any, .any, .any, .any, .any, .any, .any, .any, .any, .any, .any, .any, .any, .any, .any, .any, .any, .any, .any, .any, .any, .any, .any, .any, .any] ∧
      st = σ ++ [some (.cells [.d (.sl 22 (S.mods.map moD)), .d (vrsD S.vars), .d (.sl 12 (S.locks.map lkD)), .d (.sl 16 (S.procs.map prD)), .d (.sl 5 (S.threads.map thD))])]) 0 _
      (Wk.mask [2, 7, 8, 9, 10] ⟨rfl, rfl⟩) ?_
    rintro q fr st ⟨rfl, rfl⟩
    simp only [go_sem, List.length_map, Try.results46]
    exact ret_bd hbd rfl h
set_option maxHeartbeats 4000000 in
theorem rlook_ac (S : Sy) (hS : S.Ok) (m p : Int) (s : Str) (hs : s.length ≤ reachBytes) (σ : St) (G : Glob) (R : A → St → Prop) (h : R (tgA (lookM S m p s)) σ) : AC Try.prog G 26 [.d (syD S), di m, di p, .d (.str s)] σ R := by
  have hre : reachBytes < 9223372036854775806 := by decide
  have hl := hS.procs
  have hsy : syD S = .agg [.sl 22 (S.mods.map moD), vrsD S.vars, .sl 12 (S.locks.map lkD), .sl 16 (S.procs.map prD), .sl 5 (S.threads.map thD)] := rfl
  rw [hsy]
  refine ac_enterC [10] mixed Try.func26 rfl Try.ntmps26 (by simp only [go_sem]) fun hbd => ?_
  simp only [List.length_cons, List.length_nil, Nat.reduceAdd, Nat.reduceSub, List.replicate_succ, List.replicate_zero, List.cons_append, List.nil_append]
  have hsh : ∀ (l : List (Option Ob)), l = [] → lookM S m p s = sharedT S m s → True := fun _ _ _ => trivial
  by_cases hg : (decide (m < 0) || decide ((S.mods.length : Int) ≤ m) || decide (p < -1) || decide ((S.procs.length : Int) ≤ p)) = true
  · have hbad : lookM S m p s = .bad := by
      unfold lookM placeM inMods
      rw [if_neg]
      simp only [Bool.or_eq_true, decide_eq_true_eq] at hg
      simp only [Bool.and_eq_true, decide_eq_true_eq, not_and]
      omega
    rw [hbad] at h
    simp only [go_sem, List.length_map, hg, Try.results26]
    exact ret_bd hbd rfl h
  have hg' : (decide (m < 0) || decide ((S.mods.length : Int) ≤ m) || decide (p < -1) || decide ((S.procs.length : Int) ≤ p)) = false := by simpa only [Bool.not_eq_true] using hg
  have hin : inMods S m = true ∧ (-1 ≤ p ∧ p < S.procs.length) := by
    unfold inMods
    simp only [Bool.or_eq_false_iff, decide_eq_false_iff_not] at hg'
    simp only [decide_eq_true_eq]
    omega
  obtain ⟨hin1, hin2, hin3⟩ := hin
  rcases Int.lt_or_le p 0 with hneg | hpos
  · have hd : decide (0 ≤ p) = false := by simpa using hneg
    have hpr : prAt S p = none := by unfold prAt; rw [if_neg (by omega)]
    have hlk : lookM S m p s = sharedT S m s := by unfold lookM placeM; rw [hin1, hpr, if_pos (by simp; omega)]
    simp only [go_sem, List.length_map, hg', hd, Try.results26]
    refine aw_cut (fun fr st => lookM S m p s = sharedT S m s ∧ fr = [.any, di m, .any, .d (.str s), .ref σ.length 0, .any, .any, .any, .ref (σ.length + 1) 0, .any, .any, .any, .any, .any, .any, .any, .any, .any, .any, .any, .any, .any, .any, .any, .any, .any, .any, .any, .any, .any, .any, .any, .any, .any, .any, .any, .any, .any, .any, .any, .any, .any, .any, .any, .any, .any, .any, .any, .any, .any, .any, .any, .any, .any, .any, .any, .any, .any, .any, .any, .any, .any, .any, .any, .any, .any, .any, .any, .any, .any, .any, .any, .any, .any, .any, .any, .any, .any, .any, .any, .any, .any, .any, .any, .any, .any, .any, .any, .any, .any, .any, .any, .any, .any, .any, .any, .any, .any, .any, .any, .any, .any, .any, .any, .any, .any, .any] ∧
      st = σ ++ [some (.cells [.d (.sl 22 (S.mods.map moD)), .d (vrsD S.vars), .d (.sl 12 (S.locks.map lkD)), .d (.sl 16 (S.procs.map prD)), .d (.sl 5 (S.threads.map thD))]), some (.cells [di 0, di 0])]) ?_ ?_
    · simp only [go_sem, hd, Try.results26]
      exact Wk.mask [1, 3, 4, 8] ⟨hlk, rfl, rfl⟩
    · rintro fr st ⟨hlk, rfl, rfl⟩
      rw [hlk] at h
      simp only [go_sem, Try.results26]
      rw [← hsy]
      refine ac' (rshared_ac S hS _ _ _ _ _ ?_)
      cases hf : sharedM S m s with
      | some i =>
        have ht : sharedT S m s = .at_ 1 i := by unfold sharedT; rw [hf]
        rw [ht] at h
        simp only [tgR, go_sem, Try.results26]
        exact ret_bd hbd rfl h
      | none =>
        simp only [tgR, go_sem, Try.results26]
        rw [← hsy]
        refine ac' (other_ac S hS s hs _ _ _ ?_)
        cases ho : dottedM S s with
        | none =>
          have ht : sharedT S m s = .no := by unfold sharedT; rw [hf, ho]
          rw [ht] at h
          simp only [otR, go_sem, Try.results26]
          exact ret_bd hbd rfl h
        | some q =>
          obtain ⟨o, b⟩ := q
          simp only [otR, go_sem, Try.results26]
          rw [← hsy]
          refine ac' (rshared_ac S hS _ _ _ _ _ ?_)
          cases hf2 : sharedM S o b with
          | some i =>
            have ht : sharedT S m s = .at_ 1 i := by unfold sharedT; rw [hf, ho]; simp only; rw [hf2]
            rw [ht] at h
            simp only [tgR, go_sem, Try.results26]
            exact ret_bd hbd rfl h
          | none =>
            have ht : sharedT S m s = .no := by unfold sharedT; rw [hf, ho]; simp only; rw [hf2]
            rw [ht] at h
            simp only [tgR, go_sem, Try.results26]
            exact ret_bd hbd rfl h
  · have hd : decide (0 ≤ p) = true := by simpa using hpos
    have hpr := prAt_lt hpos hin3
    have e1 := pr_d (l := S.procs) (i := p.toNat) (by omega)
    have hq : (S.procs.getD p.toNat pr0).Ok := hS.pr _ (getD_mem _ (by omega))
    generalize S.procs.getD p.toNat pr0 = q at e1 hpr hq
    simp only [prD, vrsD, isD, Nd.cs, List.cons_append, List.nil_append] at e1
    simp only [go_sem, List.length_map, hg', hd, e1, Try.results26]
    refine ⟨⟨by omega, by omega⟩, fun c => ?_, fun c => ?_⟩
    · have hm : ¬ q.mod = m := by simpa using c
      have hlk : lookM S m p s = .bad := by
        unfold lookM placeM
        rw [hin1, hpr, if_neg (by simp; intro _ _; exact hm)]
      rw [hlk] at h
      exact ret_bd hbd rfl h
    have hm : q.mod = m := by simpa using c
    have hlk : lookM S m p s = match findV q.params s with | some i => .at_ 2 i | none => match findV q.locals s with | some i => .at_ 3 i | none => sharedT S m s := by
      unfold lookM placeM
      rw [hin1, hpr, if_pos (by simp; exact ⟨⟨by omega, by omega⟩, hm⟩)]
      rfl
    refine aw_cut (fun fr st => lookM S m p s = sharedT S m s ∧ fr = [.any, di m, .any, .d (.str s), .ref σ.length 0, .any, .any, .any, .ref (σ.length + 1) 0, .any, .any, .any, .any, .any, .any, .any, .any, .any, .any, .any, .any, .any, .any, .any, .any, .any, .any, .any, .any, .any, .any, .any, .any, .any, .any, .any, .any, .any, .any, .any, .any, .any, .any, .any, .any, .any, .any, .any, .any, .any, .any, .any, .any, .any, .any, .any, .any, .any, .any, .any, .any, .any, .any, .any, .any, .any, .any, .any, .any, .any, .any, .any, .any, .any, .any, .any, .any, .any, .any, .any, .any, .any, .any, .any, .any, .any, .any, .any, .any, .any, .any, .any, .any, .any, .any, .any, .any, .any, .any, .any, .any, .any, .any, .any, .any, .any, .any] ∧
      st = σ ++ [some (.cells [.d (.sl 22 (S.mods.map moD)), .d (vrsD S.vars), .d (.sl 12 (S.locks.map lkD)), .d (.sl 16 (S.procs.map prD)), .d (.sl 5 (S.threads.map thD))]), some (.cells [di 0, di 0])]) ?_ ?_
    · simp only [go_sem, List.length_map, hd, e1, Try.results26]
      refine ⟨⟨by omega, by omega⟩, ac' ?_⟩
      rw [← vrsD]
      refine among_ac _ hq.params _ _ _ _ _ ?_
      cases hf1 : findV q.params s with
      | some i =>
        rw [hlk, hf1] at h
        simp only [tgR, go_sem, Try.results26]
        exact ret_bd hbd rfl h
      | none =>
        simp only [tgR, go_sem, List.length_map, e1, Try.results26]
        refine ⟨⟨by omega, by omega⟩, ac' ?_⟩
        rw [← vrsD]
        refine among_ac _ hq.locals _ _ _ _ _ ?_
        cases hf2 : findV q.locals s with
        | some i =>
          rw [hlk, hf1, hf2] at h
          simp only [tgR, go_sem, Try.results26]
          exact ret_bd hbd rfl h
        | none =>
          rw [hf1, hf2] at hlk
          simp only [tgR, go_sem, Try.results26]
          exact Wk.keep [1, 3, 4, 8] [0, 1] (by decide) (Nat.le_refl _) hbd ⟨hlk, by simp only [go_sem], by simp only [go_sem]⟩
    · rintro fr st ⟨hlk, rfl, rfl⟩
      rw [hlk] at h
      simp only [go_sem, Try.results26]
      rw [← hsy]
      refine ac' (rshared_ac S hS _ _ _ _ _ ?_)
      cases hf : sharedM S m s with
      | some i =>
        have ht : sharedT S m s = .at_ 1 i := by unfold sharedT; rw [hf]
        rw [ht] at h
        simp only [tgR, go_sem, Try.results26]
        exact ret_bd hbd rfl h
      | none =>
        simp only [tgR, go_sem, Try.results26]
        rw [← hsy]
        refine ac' (other_ac S hS s hs _ _ _ ?_)
        cases ho : dottedM S s with
        | none =>
          have ht : sharedT S m s = .no := by unfold sharedT; rw [hf, ho]
          rw [ht] at h
          simp only [otR, go_sem, Try.results26]
          exact ret_bd hbd rfl h
        | some q =>
          obtain ⟨o, b⟩ := q
          simp only [otR, go_sem, Try.results26]
          rw [← hsy]
          refine ac' (rshared_ac S hS _ _ _ _ _ ?_)
          cases hf2 : sharedM S o b with
          | some i =>
            have ht : sharedT S m s = .at_ 1 i := by unfold sharedT; rw [hf, ho]; simp only; rw [hf2]
            rw [ht] at h
            simp only [tgR, go_sem, Try.results26]
            exact ret_bd hbd rfl h
          | none =>
            have ht : sharedT S m s = .no := by unfold sharedT; rw [hf, ho]; simp only; rw [hf2]
            rw [ht] at h
            simp only [tgR, go_sem, Try.results26]
            exact ret_bd hbd rfl h
end Go.Proofs.Ytfoblkeefpaceaa
end PartS4

section PartQ1
/- Plain facts of widths: ranges; an own width is the only one without reports. -/
set_option linter.unusedSimpArgs false
set_option linter.unusedVariables false
namespace Go.Proofs.Ytfoblkeefpaceaa
open Go Go.Ab

theorem Nd.ind {p : Nd → Prop} (h0 : p Nd.none) (h : ∀ e : Nd, (∀ i, p (e.kid i)) → (∀ k ∈ e.kids, p k) → p e) : ∀ e, p e := by
  have key : ∀ (n : Nat) (e : Nd), SizeOf.sizeOf e ≤ n → p e := by
    intro n
    induction n with
    | zero => intro e he; cases e; simp at he
    | succ n ih =>
      intro e he
      have hk : ∀ k ∈ e.kids, p k := fun k hk => ih k (by have := Nd.kid_lt hk; omega)
      refine h e (fun i => ?_) hk
      unfold Nd.kid
      rcases Nat.lt_or_ge i e.kids.length with hi | hi
      · exact hk _ (getD_mem _ hi)
      · rw [List.getD_eq_getElem?_getD, List.getElem?_eq_none hi]; exact h0
  exact fun e => key _ e (Nat.le_refl _)
theorem orM_range {a b : Int} (ha : 0 ≤ a ∧ a ≤ 8) (hb : 0 ≤ b ∧ b ≤ 8) : 0 ≤ orM a b ∧ orM a b ≤ 8 := by
  unfold orM; split <;> assumption
/-- Declared variables have widths from 1 to 8. -/
def Okay (L : Str → Option (Int × Vr)) : Prop := ∀ s k v, L s = some (k, v) → 1 ≤ v.w ∧ v.w ≤ 8
theorem den_var {L : Str → Option (Int × Vr)} {B : Bnd} {s : Str} {k : Int} {v : Vr} (h : den L B s = .var k v) : L s = some (k, v) := by
  unfold den at h
  split at h
  · cases h
  · split at h
    · injection h with h1 h2; subst h1; subst h2; assumption
    · cases h
theorem own_range {L : Str → Option (Int × Vr)} (hL : Okay L) (B : Bnd) : ∀ e, 0 ≤ ownM (den L B) e ∧ ownM (den L B) e ≤ 8 := by
  refine Nd.ind (by rw [own_none]; omega) fun e hk _ => ?_
  rw [own_eq]
  split
  · cases h : den L B e.name <;> simp only [Mn.own]
    · omega
    · omega
    · have := hL _ _ _ (den_var h); omega
  split
  · exact hk 0
  split
  · split
    · exact orM_range (hk 0) (hk 1)
    · split <;> omega
  split
  · exact orM_range (hk 1) (hk 2)
  split <;> omega
theorem bits_pos (n : Int) : 1 ≤ bitsM n := by unfold bitsM; split <;> omega
theorem least_pos (dn : Str → Mn) : ∀ e, 1 ≤ leastM dn e := by
  refine Nd.ind (by rw [least_none]; omega) fun e hk _ => ?_
  rw [least_eq]
  have h0 := hk 0; have h1 := hk 1; have h2 := hk 2
  split
  · exact bits_pos _
  split
  · cases dn e.name <;> simp only [Mn.least]
    · omega
    · exact bits_pos _
    · omega
  split
  · exact h0
  split
  · split <;> omega
  split <;> omega
theorem width_range {L : Str → Option (Int × Vr)} (hL : Okay L) (B : Bnd) (e : Nd) {w : Int} (hw : 0 ≤ w ∧ w ≤ 8) : 1 ≤ widthM (den L B) e w ∧ widthM (den L B) e w ≤ 8 := by
  have h1 := own_range hL B e
  have h2 := least_pos (den L B) e
  unfold widthM
  split
  · omega
  split <;> omega
theorem width_self {dn : Str → Mn} {e : Nd} {w : Int} (h : 1 ≤ w) : widthM dn e w = w := by
  unfold widthM; rw [if_pos (by omega)]
theorem rep_nil {b : Bool} {x y : Int} : rep b x y = [] ↔ b = false := by cases b <;> simp [rep]
theorem own_forces (C : Cx) (B : Bnd) : ∀ (e : Nd) (w : Int), exprM C e B w = [] → ownM (den C.L B) e = 0 ∨ ownM (den C.L B) e = w := by
  refine Nd.ind (fun w h => by rw [own_none]; exact .inl rfl) fun e hk _ w => ?_
  rw [expr_eq, own_eq]
  by_cases h1 : e.kind = 1
  · simp [h1]
  by_cases h2 : e.kind = 2
  · simp only [h1, h2, if_true, if_false, refM, List.append_eq_nil_iff, Int.reduceEq, false_or, or_false]
    rintro ⟨hr, -⟩
    unfold refOwn at hr
    split at hr
    · rename_i hm; simp [hm, Mn.own]
    · cases hr
    · rename_i k v hm
      split at hr
      · cases hr
      · rw [rep_nil] at hr; right; simpa [hm, Mn.own] using hr
  by_cases h3 : e.kind = 3
  · simp only [h1, h2, h3, if_true, if_false, List.append_eq_nil_iff, Int.reduceEq, true_or, or_true]
    exact fun h => hk 0 w h.2
  by_cases h4 : e.kind = 4
  · simp only [h1, h2, h4, if_true, if_false, Int.reduceEq, true_or, or_true]
    exact hk 0 w
  by_cases h5 : e.kind = 5
  · simp only [h1, h2, h5, if_true, if_false, Int.reduceEq, false_or, or_false, binM]
    by_cases o1 : opM e.name = 1
    · simp only [o1, if_true, if_false, Int.reduceEq, List.append_eq_nil_iff, rep_nil]
      rintro ⟨h, -⟩; right; simp at h; omega
    by_cases o2 : opM e.name = 2
    · simp only [o2, if_true, if_false, Int.reduceEq, List.append_eq_nil_iff, rep_nil]
      rintro ⟨h, -⟩; right; simp at h; omega
    by_cases o3 : opM e.name = 3
    · simp only [o3, if_true, if_false, Int.reduceEq, List.append_eq_nil_iff]
      rintro ⟨ha, hb⟩
      have ia := hk 0 w ha; have ib := hk 1 w hb
      unfold orM
      split <;> assumption
    · simp [o1, o2, o3]
  by_cases h6 : e.kind = 6
  · simp only [h1, h2, h6, if_true, if_false, Int.reduceEq, false_or, or_false, List.append_eq_nil_iff]
    rintro ⟨-, ha, hb⟩
    have ia := hk 1 w ha; have ib := hk 2 w hb
    unfold orM
    split <;> assumption
  by_cases h7 : e.kind = 7 ∨ e.kind = 8
  · have : ¬ (e.kind = 3 ∨ e.kind = 4) := by omega
    simp only [h1, h2, h3, h4, h5, h6, h7, this, if_true, if_false, or_self, List.append_eq_nil_iff]
    rintro ⟨h, -⟩
    right
    split at h
    · cases h
    · omega
  · have : ¬ (e.kind = 3 ∨ e.kind = 4) := by omega
    simp [h1, h2, h3, h4, h5, h6, h7, this]
theorem take20_nil {l : List Dg} : l.take 20 = [] ↔ l = [] := by cases l <;> simp
theorem findIdx_lt {α : Type} {p : α → Bool} {l : List α} {i : Nat} (h : l.findIdx? p = some i) : i < l.length := by
  rw [List.findIdx?_eq_some_iff_getElem] at h; exact h.1
theorem sharedM_lt {S : Sy} {m : Int} {s : Str} {i : Nat} (h : sharedM S m s = some i) : i < S.vars.length := findIdx_lt h
theorem prAt_mem {S : Sy} {p : Int} {q : Pr} (h : prAt S p = some q) : q ∈ S.procs := by
  unfold prAt at h
  split at h
  · exact List.mem_of_getElem? h
  · cases h
theorem sharedT_spec {S : Sy} {m : Int} {s : Str} {k : Int} {i : Nat} (h : sharedT S m s = .at_ k i) : k = 1 ∧ i < S.vars.length := by
  unfold sharedT at h
  split at h
  · injection h with h1 h2; subst h1; subst h2; exact ⟨rfl, sharedM_lt (by assumption)⟩
  · split at h
    · split at h
      · injection h with h1 h2; subst h1; subst h2; exact ⟨rfl, sharedM_lt (by assumption)⟩
      · cases h
    · cases h
/-- What a name stands for lies where it is said to lie. -/
theorem lookM_spec {S : Sy} {m p : Int} {s : Str} {k : Int} {i : Nat} (h : lookM S m p s = .at_ k i) :
    placeM S m p = true ∧ ((k = 1 ∧ i < S.vars.length) ∨ (∃ q, prAt S p = some q ∧ ((k = 2 ∧ i < q.params.length) ∨ (k = 3 ∧ i < q.locals.length)))) := by
  unfold lookM at h
  split at h
  · rename_i hp
    refine ⟨hp, ?_⟩
    split at h
    · rename_i q hq
      split at h
      · injection h with h1 h2; subst h1; subst h2; exact .inr ⟨q, hq, .inl ⟨rfl, findIdx_lt (by assumption)⟩⟩
      · split at h
        · injection h with h1 h2; subst h1; subst h2; exact .inr ⟨q, hq, .inr ⟨rfl, findIdx_lt (by assumption)⟩⟩
        · exact .inl (sharedT_spec h)
    · exact .inl (sharedT_spec h)
  · cases h
theorem sized_mem {l : List Vr} (h : sizedM l = true) {i : Nat} (hi : i < l.length) : 1 ≤ (l.getD i vr0).w ∧ (l.getD i vr0).w ≤ 8 := by
  unfold sizedM at h
  have := List.all_eq_true.1 h _ (getD_mem vr0 hi)
  simp only [decide_eq_true_eq] at this
  omega
theorem okay_of {S : Sy} {m p : Int} (h : usableM S = true) : Okay (declM S m p) := by
  unfold usableM at h
  simp only [Bool.and_eq_true] at h
  obtain ⟨⟨⟨-, -⟩, hp⟩, hv⟩ := h
  intro s k v hs
  unfold declM at hs
  split at hs
  · rename_i k' i hl
    obtain ⟨-, ⟨rfl, hi⟩ | ⟨q, hq, h⟩⟩ := lookM_spec hl
    · simp only [Int.reduceEq, if_false, Option.some.injEq, Prod.mk.injEq] at hs
      rw [← hs.2]; exact sized_mem hv hi
    · have hm := List.all_eq_true.1 hp _ (prAt_mem hq)
      simp only [Bool.and_eq_true] at hm
      rcases h with ⟨rfl, hi⟩ | ⟨rfl, hi⟩
      · simp only [if_true, hq, Option.some.injEq, Prod.mk.injEq] at hs
        rw [← hs.2]; exact sized_mem hm.1.2 hi
      · simp only [Int.reduceEq, if_true, if_false, hq, Option.some.injEq, Prod.mk.injEq] at hs
        rw [← hs.2]; exact sized_mem hm.2 hi
  · cases hs
/-- The law of widths. -/
theorem widths_law {S : Sy} {m p : Int} {e : Nd} (hg : goodM S m p 0 = true) (h : dM S m p e 0 = []) {v : Int} (hv : 1 ≤ v ∧ v ≤ 8) :
    goodM S m p v = true ∧ wM S m p e v = v ∧ (v = wM S m p e 0 → dM S m p e v = []) ∧ (v ≠ wM S m p e 0 → ownM (den (declM S m p) []) e ≠ 0 → dM S m p e v ≠ []) ∧
    (ownM (den (declM S m p) []) e ≠ 0 → ownM (den (declM S m p) []) e = wM S m p e 0) := by
  unfold goodM at hg ⊢
  simp only [Bool.and_eq_true, decide_eq_true_eq] at hg ⊢
  have hown := own_forces (cxM S m p (decide (p < 0))) [] e
  have e1 : wM S m p e v = v := width_self hv.1
  have r : ownM (den (declM S m p) []) e ≠ 0 → ownM (den (declM S m p) []) e = wM S m p e 0 := fun h0 => by
    unfold wM widthM; rw [if_neg (by omega), if_pos h0]
  refine ⟨⟨hg.1, by omega⟩, e1, fun hh => ?_, fun hn h0 hd => ?_, r⟩
  · unfold dM at h ⊢; rw [e1, hh]; exact h
  · unfold dM at hd
    rw [e1] at hd
    rcases hown v hd with h1 | h1
    · exact h0 h1
    · exact hn (h1.symm.trans (r h0))
/-- A kid is fine with a width if it has no reports with it. -/
theorem fine_iff {S : Sy} {m p : Int} {e : Nd} {w v : Int} (hg : goodM S m p w = true) (hv : 1 ≤ v ∧ v ≤ 8) : goodM S m p v = true ∧ dM S m p e v = exprM (cxM S m p (decide (p < 0))) e [] v := by
  unfold goodM at hg ⊢
  simp only [Bool.and_eq_true, decide_eq_true_eq] at hg ⊢
  refine ⟨⟨hg.1, by omega⟩, ?_⟩
  unfold dM wM; rw [width_self hv.1]
end Go.Proofs.Ytfoblkeefpaceaa
end PartQ1
