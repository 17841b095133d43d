import Derived.Test.YtnanofipjiclfaaZ81

section PartT7
/- retract. -/
set_option linter.unusedSimpArgs false
set_option linter.unusedVariables false
set_option maxRecDepth 100000
namespace Go.Proofs.Ytnanofipjiclfaa
open Go Go.Ab
variable {I : Sl → Nat} {S : Sv} {σ : St}

def opens (S : Sv) (ids : List Nat) (d : Int) : Sv := ids.foldl (fun S id => S.openD id d) S
theorem opens_snoc (S : Sv) (ids : List Nat) (id : Nat) (d : Int) : opens S (ids ++ [id]) d = (opens S ids d).openD id d := by simp [opens]
theorem opens_ok (S : Sv) (ids : List Nat) (d : Int) (id : Nat) : okId (opens S ids d) id ↔ okId S id := by
  have := foldl_fix (fun S => okId S id) (fun S (i : Nat) => S.openD i d) (fun S i => propext okId_open) ids S
  exact this ▸ Iff.rfl
theorem opens_occ (S : Sv) (ids : List Nat) (d : Int) : (opens S ids d).occ = S.occ := foldl_fix (fun S : Sv => S.occ) (fun (S : Sv) (i : Nat) => S.openD i d) (fun _ _ => rfl) ids S
theorem Cb.opens {d : Int} (hd : -1 ≤ d ∧ d ≤ 1) : ∀ {ids : List Nat} {B : Nat} {S : Sv}, Cb S B → (∀ id ∈ ids, okId S id) → Cb (opens S ids d) (B + ids.length)
  | [], _, _, h, _ => h
  | id :: ids, B, S, h, ho => by
    have h1 := h.openD (ho id (by simp)) hd
    have := Cb.opens hd (ids := ids) h1 fun i hi => okId_open.2 (ho i (by simp [hi]))
    have e : B + 1 + ids.length = B + (id :: ids).length := by simp; omega
    rw [e] at this
    exact this
def drop0 (S : Sv) (l : Int) : Sv := { S with trail := S.trail.dropLast, truth := S.truth.set (code l) false, first := min S.first (vr l) }
theorem drop1_eq (S : Sv) (l : Int) : S.drop1 l = opens (holds (drop0 S l) (S.occ.getD (code l) []) (-1)) (S.occ.getD (code (-l)) []) 1 := by
  have h2 : (holds (drop0 S l) (S.occ.getD (code l) []) (-1)).occ = S.occ := holds_occ _ _ _
  have h1 : S.drop1 l = opens (holds (drop0 S l) (S.occ.getD (code l) []) (-1)) ((holds (drop0 S l) (S.occ.getD (code l) []) (-1)).occ.getD (code (-l)) []) 1 := rfl
  rw [h1, h2]
theorem holds_trail (S : Sv) (ids : List Nat) (d : Int) : (holds S ids d).trail = S.trail := foldl_fix (fun S : Sv => S.trail) (fun (S : Sv) (i : Nat) => S.hold i d) (fun _ _ => rfl) ids S
theorem opens_trail (S : Sv) (ids : List Nat) (d : Int) : (opens S ids d).trail = S.trail := foldl_fix (fun S : Sv => S.trail) (fun (S : Sv) (i : Nat) => S.openD i d) (fun _ _ => rfl) ids S
theorem drop1_trail (S : Sv) (l : Int) : (S.drop1 l).trail = S.trail.dropLast := by rw [drop1_eq, opens_trail, holds_trail]; rfl
theorem drop1_occ (S : Sv) (l : Int) : (S.drop1 l).occ = S.occ := by rw [drop1_eq, opens_occ, holds_occ]; rfl
theorem holds_sh {S : Sv} (h : Sh S) (ids : List Nat) (d : Int) : Sh (holds S ids d) := by
  have := foldl_fix (fun S => Sh S) (fun S (i : Nat) => S.hold i d) (fun S i => propext ⟨fun h => ⟨h.1, h.2, h.3, h.4, h.5, h.6, h.7⟩, fun h => ⟨h.1, h.2, h.3, h.4, h.5, h.6, h.7⟩⟩) ids S
  exact this ▸ h
theorem opens_sh {S : Sv} (h : Sh S) (ids : List Nat) (d : Int) : Sh (opens S ids d) := by
  have := foldl_fix (fun S => Sh S) (fun S (i : Nat) => S.openD i d) (fun S i => propext ⟨fun h => ⟨h.1, h.2, h.3, h.4, h.5, h.6, h.7⟩, fun h => ⟨h.1, h.2, h.3, h.4, h.5, h.6, h.7⟩⟩) ids S
  exact this ▸ h
theorem drop1_sh {S : Sv} (h : Sh S) (l : Int) : Sh (S.drop1 l) := by
  rw [drop1_eq]
  have h0 : Sh (drop0 S l) := ⟨h.1, h.2, h.3, by simpa [drop0] using h.4, h.5, h.6, h.7⟩
  exact opens_sh (holds_sh h0 _ _) _ _
theorem drop1_ok (S : Sv) (l : Int) (id : Nat) : okId (S.drop1 l) id ↔ okId S id := by rw [drop1_eq, opens_ok, holds_ok]; exact Iff.rfl
theorem drop1_vars (S : Sv) (l : Int) : (S.drop1 l).vars = S.vars := by
  rw [drop1_eq]
  exact (foldl_fix (fun S : Sv => S.vars) (fun (S : Sv) (i : Nat) => S.openD i 1) (fun _ _ => rfl) _ _).trans (foldl_fix (fun S : Sv => S.vars) (fun (S : Sv) (i : Nat) => S.hold i (-1)) (fun _ _ => rfl) _ _)
theorem drop1_first (S : Sv) (l : Int) : (S.drop1 l).first = min S.first (vr l) := by
  rw [drop1_eq]
  exact (foldl_fix (fun S : Sv => S.first) (fun (S : Sv) (i : Nat) => S.openD i 1) (fun _ _ => rfl) _ _).trans (foldl_fix (fun S : Sv => S.first) (fun (S : Sv) (i : Nat) => S.hold i (-1)) (fun _ _ => rfl) _ _)
theorem occOk_of {S S' : Sv} (ho : S'.occ = S.occ) (hk : ∀ id, okId S' id ↔ okId S id) {l : Int} (h : OccOk S l) : OccOk S' l := by
  unfold OccOk at *; rw [ho]; exact ⟨h.1, fun id hid => ⟨(hk id).2 (h.2 id hid).1, (h.2 id hid).2⟩⟩
theorem retract_done {S : Sv} {n : Nat} (h : S.trail.length ≤ n) : S.retract n = S := by unfold Sv.retract; rw [List.drop_of_length_le h]; rfl
theorem retract_step {S : Sv} {n : Nat} (h : n < S.trail.length) : S.retract n = (S.drop1 (S.trail.getD (S.trail.length - 1) 0)).retract n := by
  unfold Sv.retract
  rw [drop1_trail]
  generalize hL : S.trail.getD (S.trail.length - 1) 0 = l
  have e : S.trail = S.trail.dropLast ++ [l] := by
    have hne : S.trail ≠ [] := List.length_pos_iff.1 (by omega)
    conv => lhs; rw [← List.dropLast_concat_getLast hne]
    rw [← hL, List.getD_eq_getElem?_getD, List.getElem?_eq_getElem (by omega), List.getLast_eq_getElem]; rfl
  have hd : S.trail.drop n = S.trail.dropLast.drop n ++ [l] := by
    conv => lhs; rw [e]
    rw [List.drop_append_of_le_length (by simp; omega)]
  rw [hd, List.reverse_append]; rfl
theorem intsA_take (l : List Int) (n : Nat) : (intsA l).take n = intsA (l.take n) := by simp [intsA, List.map_take]
/-- A slice of the struct's is cut short. -/
theorem drop1_cb {S : Sv} {B : Nat} (h : Cb S B) {l : Int} (ho : OccOk S l) (ho' : OccOk S (-l)) : Cb (S.drop1 l) (B + 2000000) := by
  have h0 : Cb (drop0 S l) B := h
  have h1 := (h0.holds (d := -1) (by omega) (ids := S.occ.getD (code l) []) fun id hid => (ho.2 id hid).1).opens (d := 1) (by omega) (ids := S.occ.getD (code (-l)) []) fun id hid => (holds_ok _ _ _ _).2 (ho'.2 id hid).1
  rw [drop1_eq]
  have := ho.1
  have := ho'.1
  exact h1.mono (by omega)
theorem Wk.via {G : Glob} {n0 : Nat} {fr fr' : Fr} {τ τ' : St} {J : Fr → St → Prop} (hw : Weak G n0 fr τ fr' τ') (h : Wk G n0 J fr' τ') : Wk G n0 J fr τ := by
  obtain ⟨r, s, h1, h2⟩ := h
  exact ⟨r, s, hw.trans h1, h2⟩
set_option maxHeartbeats 4000000 in
theorem retract_ac (hS : Sol I S σ) (hs : Sh S) (n : Nat) (hn : n ≤ 1000000) (B : Nat) (hcb : Cb S B) (hB : B ≤ 1000000000000000) (hl : ∀ l ∈ S.trail, LitV S.vars l ∧ OccOk S l ∧ OccOk S (-l)) (htr : S.trail.length ≤ 1000000) (hfst : S.first ≤ 1000000000)
    (G : Glob) (R : A → St → Prop) (h : ∀ r I' σ', Sol I' (S.retract n) σ' → Stp Any I S σ I' σ' → R r σ') : AC Try.prog G 38 [.ref (I .st) 0, dn n] σ R := by
  refine ac_enterC' [3, 5, 10] mixed Try.func38 rfl Try.ntmps38 (by simp only [go_sem]) fun hbd => ?_
  simp only [List.length_cons, List.length_nil, Nat.reduceAdd, Nat.reduceSub, List.replicate_succ, List.replicate_zero, List.cons_append, List.nil_append]
  simp only [go_sem, Try.results38]
  refine aw_loop (fun m fr st => ∃ S1 : Sv, m = S1.trail.length ∧ fr = [.ref (I .st) 0, dn n, .any, .any, .any, .any, .any, .any, .any, .any, .any, .any, .any, .any, .any, .any, .any, .any, .any, .any, .any, .any, .any, .any, .any, .any, .any, .any, .any, .any, .any, .any, .any, .any, .any, .any, .any, .any, .any, .any, .any, .any, .any, .any, .any, .any, .any, .any, .any, .any, .any, .any, .any, .any, .any, .any, .any, .any, .any, .any, .any, .any, .any, .any, .any, .any, .any, .any, .any, .any, .any, .any, .any, .any, .any, .any, .any, .any, .any, .any, .any, .any, .any, .any, .any, .any, .any, .any, .any, .any, .any, .any, .any, .any, .any, .any, .any, .any, .any, .any, .any, .any, .any, .any, .any, .any] ∧ Sol I S1 st ∧ Stp Any I S σ I st ∧ Sh S1 ∧ S1.vars = S.vars ∧ S1.occ = S.occ ∧ (∀ id, okId S1 id ↔ okId S id) ∧ (∀ l ∈ S1.trail, LitV S.vars l ∧ OccOk S l ∧ OccOk S (-l)) ∧ S1.trail.length ≤ 1000000 ∧ S1.first ≤ 1000000000
      ∧ Cb S1 (B + (1000000 - S1.trail.length) * 2000000) ∧ S1.retract n = S.retract n) S.trail.length _
    (Wk.mask [0, 1] ⟨S, rfl, rfl, hS, Stp.refl _ _ _ _, hs, rfl, rfl, fun _ => Iff.rfl, hl, htr, hfst, hcb.mono (by omega), rfl⟩) ?_
  rintro m fr st ⟨S1, rfl, rfl, hS1, hT1, hs1, hv1, ho1, hk1, hl1, ht1, hf1, hc1, hr1⟩
  rcases Nat.lt_or_ge n S1.trail.length with hlt | hge
  · have hd : decide ((n : Int) < (S1.trail.length : Int)) = true := by simp; omega
    simp only [go_sem, hS1.live .st, hS1.ob .st, hS1.live .trail, ct, hd, Try.results38]
    have w1 : IntKind.i64.wrap ((S1.trail.length : Int) - 1) = ((S1.trail.length - 1 : Nat) : Int) := by rw [wrap64_id _ (by omega) (by omega)]; omega
    have hj : S1.trail.length - 1 < S1.trail.length := by omega
    have hlv := hl1 _ (getD_mem 0 hj)
    have hstep := retract_step hlt
    have hdc := drop1_cb hc1 (occOk_of ho1 hk1 hlv.2.1) (occOk_of ho1 hk1 hlv.2.2)
    refine aw_plan (.tk 13 0 <| .done) (by kernel_rfl) ?_
    simp only [go_sem, hS1.live .st, hS1.ob .st, hS1.live .trail, hS1.ob .trail, ct, w1, intsA_len, intsA_get hj, Nat.mul_one, Try.results38]
    refine ⟨⟨by omega, by omega⟩, hj, ?_⟩
    generalize S1.trail.getD (S1.trail.length - 1) 0 = l at hlv hstep hdc
    have ht0 : ∀ s, has S s ↔ has S1 s := SameOcc.has (by unfold SameOcc; rw [ho1])
    have hcl : code l < S1.truth.length := by rw [hs1.truth, hv1]; exact hlv.1.codeLt
    have hv := hs1.vars
    rw [hv1] at hv
    refine aw_cut (fun fr st => fr = [.ref (I .st) 0, dn n, .any, .any, di l, .any, .any, .any, .any, .any, .any, .any, .any, .any, .any, .any, .any, .any, .any, .any, .any, .any, .any, .any, .any, .any, .any, .any, .any, .any, .any, .any, .any, .any, .any, .any, .any, .any, .any, .any, .any, .any, .any, .any, .any, .any, .any, .any, .any, .any, .any, .any, .any, .any, .any, .any, .any, .any, .any, .any, .any, .any, .any, .any, .any, .any, .any, .any, .any, .any, .any, .any, .any, .any, .any, .any, .any, .any, .any, .any, .any, .any, .any, .any, .any, .any, .any, .any, .any, .any, .any, .any, .any, .any, .any, .any, .any, .any, .any, .any, .any, .any, .any, .any, .any, .any] ∧ Sol I { S1 with trail := S1.trail.dropLast } st ∧ Stp Any I S σ I st) ?_ ?_
    · simp only [go_sem, Try.results38]
      refine aw_plan (.tk 15 0 <| .done) (by kernel_rfl) ?_
      simp only [go_sem, hS1.live .st, hS1.ob .st, hS1.live .trail, hS1.ob .trail, ct, w1, intsA_len, Nat.mul_one, Try.results38]
      refine ⟨⟨by omega, by omega⟩, Wk.via (Weak.shortAt (I .trail) (S1.trail.length - 1) (by rw [set_other (hS1.ne (by decide))]; exact hS1.get .trail trivial)) (Wk.mask [0, 1, 4] ⟨rfl, ?_, hT1.trans ht0 (stp_put2 _ .trail trivial)⟩)⟩
      refine hS1.put2 .trail trivial (by decide) (fun t => by cases t <;> exact Iff.rfl) ?_ ?_ fun t h1 h2 => ?_
      · simp only [ct, List.length_dropLast]; rfl
      · simp only [ct, intsA_take, List.dropLast_eq_take]
      · cases t <;> first | rfl | exact absurd rfl h1 | exact absurd rfl h2
    clear hS1 hT1
    rintro fr st ⟨rfl, hS2, hT2⟩
    simp only [go_sem, Try.results38]
    refine aw_plan (.take 0 <| .take 4 <| .pure 5 <| .tk 3 1 <| .tk 2 6 <| .done) (by kernel_rfl) ?_
    simp only [go_sem, Try.results38]
    refine exP (dn (code l)) ⟨fun σ' => ?_, ?_⟩
    · simp only [go_sem, Try.results38]
      exact ac' (code_ac l (hlv.1.big hv) _ _ _ ⟨rfl, rfl⟩)
    simp only [go_sem, hS2.live .st, hS2.ob .st, hS2.live .truth, hS2.ob .truth, ct, boolsA_len, boolsA_set _ hcl, Nat.mul_one, Try.results38]
    refine ⟨⟨by omega, by omega⟩, by omega, ?_⟩
    have hS3 := hS2.put (S' := { S1 with trail := S1.trail.dropLast, truth := S1.truth.set (code l) false }) .truth trivial (fun t => by cases t <;> exact Iff.rfl) (cs := boolsA (S1.truth.set (code l) false)) rfl (fun t ht => by cases t <;> first | rfl | exact absurd rfl ht | simp [ct, valA, coreA])
    have hT3 : Stp Any I S σ I (st.set (I .truth) (some (.cells (boolsA (S1.truth.set (code l) false))))) := hT2.trans ht0 (stp_put _ .truth trivial)
    generalize st.set (I .truth) (some (.cells (boolsA (S1.truth.set (code l) false)))) = st3 at hS3 hT3
    refine aw_cut (fun fr st => fr = [.ref (I .st) 0, dn n, .any, .any, di l, .any, .any, .any, .any, .any, .any, .any, .any, .any, .any, .any, .any, .any, .any, .any, .any, .any, .any, .any, .any, .any, .any, .any, .any, .any, .any, .any, .any, .any, .any, .any, .any, .any, .any, .any, .any, .any, .any, .any, .any, .any, .any, .any, .any, .any, .any, .any, .any, .any, .any, .any, .any, .any, .any, .any, .any, .any, .any, .any, .any, .any, .any, .any, .any, .any, .any, .any, .any, .any, .any, .any, .any, .any, .any, .any, .any, .any, .any, .any, .any, .any, .any, .any, .any, .any, .any, .any, .any, .any, .any, .any, .any, .any, .any, .any, .any, .any, .any, .any, .any, .any] ∧ Sol I (drop0 S1 l) st ∧ Stp Any I S σ I st) ?_ ?_
    · simp only [go_sem, Try.results38]
      refine aw_plan (.tk 2 0 <| .take 5 <| .pure 6 <| .tk 3 2 <| .tk 4 7 <| .done) (by kernel_rfl) ?_
      simp only [go_sem, Try.results38]
      refine exP (dn (vr l)) ⟨fun σ' => ?_, ?_⟩
      · simp only [go_sem, Try.results38]
        exact ac' (vr_ac l (hlv.1.big hv) _ _ _ ⟨rfl, rfl⟩)
      have em : min (S1.first : Int) (vr l : Int) = ((min S1.first (vr l) : Nat) : Int) := by omega
      simp only [go_sem, hS3.live .st, hS3.ob .st, ct, em, Try.results38]
      refine Wk.mask [0, 1, 4] ⟨rfl, hS3.put .st trivial (fun t => by cases t <;> exact Iff.rfl) (by rfl) (fun t ht => by cases t <;> first | rfl | exact absurd rfl ht), hT3.trans ht0 (stp_put _ .st trivial)⟩
    clear hS3 hT3
    clear hS2 hT2
    rintro fr st ⟨rfl, hS2, hT2⟩
    have hde := drop1_eq S1 l
    have hf2 := drop1_first S1 l
    have hcl2 : code l < S.occ.length := by rw [← ho1, hs1.occ, hv1]; exact hlv.1.codeLt
    have hcn2 : code (-l) < S.occ.length := by rw [← ho1, hs1.occ, hv1]; exact hlv.1.neg.codeLt
    have hcb1 : Cb (drop0 S1 l) (B + (1000000 - S1.trail.length) * 2000000) := hc1
    have hm : (drop0 S1 l).occ = S.occ := ho1
    have hok1 : ∀ id, okId (drop0 S1 l) id ↔ okId S id := hk1
    generalize drop0 S1 l = S2 at hS2 hde hcb1 hm hok1
    rw [ho1] at hde
    obtain ⟨hlv0, ⟨hil, hio⟩, hnl, hno⟩ := hlv
    generalize hids : S.occ.getD (code l) [] = ids at hde hil hio
    generalize hids2 : S.occ.getD (code (-l)) [] = js at hde hnl hno
    simp only [go_sem, Try.results38]
    refine aw_cut (fun fr st => fr = [.ref (I .st) 0, dn n, .any, .any, di l, .any, .any, .any, .any, .any, .any, .any, .any, .any, .any, .any, .any, .any, .any, .any, .any, .any, .any, .any, .any, .any, .any, .any, .any, .any, .any, .any, .any, .any, .any, .any, .any, .any, .any, .any, .any, .any, .any, .any, .any, .any, .any, .any, .any, .any, .any, .any, .any, .any, .any, .any, .any, .any, .any, .any, .any, .any, .any, .any, .any, .any, .any, .any, .any, .any, .any, .any, .any, .any, .any, .any, .any, .any, .any, .any, .any, .any, .any, .any, .any, .any, .any, .any, .any, .any, .any, .any, .any, .any, .any, .any, .any, .any, .any, .any, .any, .any, .any, .any, .any, .any] ∧ Sol I (holds S2 ids (-1)) st ∧ Stp Any I S σ I st) ?_ ?_
    · simp only [go_sem, Try.results38]
      refine aw_plan (.take 0 <| .take 4 <| .take 9 <| .pure 5 <| .tk 3 1 <| .tk 3 6 <| .done) (by kernel_rfl) ?_
      simp only [go_sem, Try.results38]
      refine exP (dn (code l)) ⟨fun σ' => ?_, ?_⟩
      · simp only [go_sem, Try.results38]
        exact ac' (code_ac l (hlv0.big hv) _ _ _ ⟨rfl, rfl⟩)
      have hin := hS2.live (.inn (code l)) (by simp only [has]; rw [hm]; exact hcl2)
      simp only [go_sem, hS2.live .st, hS2.ob .st, hS2.live .occ, hS2.ob .occ, ct, hm, List.length_map, List.length_range, occ_get _ hcl2, innA, hids, hin, Nat.mul_one, Try.results38]
      refine ⟨⟨by omega, by omega⟩, hcl2, ?_⟩
      refine aw_loop (fun m fr st => ∃ j : Nat, j ≤ ids.length ∧ m = ids.length - j ∧ fr = [.ref (I .st) 0, dn n, .any, .any, di l, .any, .any, .any, .any, .any, .any, .any, .any, .any, .any, .any, .any, .any, .any, .any, .any, .any, .any, .any, .any, .any, .any, .any, .any, .any, .any, .any, .any, .any, .any, .any, .any, .any, .any, .any, .any, .any, .any, .any, .any, .any, .any, .any, .any, .any, .any, .any, .any, .any, .any, .any, .any, .any, .any, .any, .any, .any, .any, .any, .any, .any, .rs (I (.inn (code l))) 1 0 ids.length (some 3), dn ids.length, dn j, .any, .any, .any, .any, .any, .any, .any, .any, .any, .any, .any, .any, .any, .any, .any, .any, .any, .any, .any, .any, .any, .any, .any, .any, .any, .any, .any, .any, .any, .any, .any, .any, .any, .any, .any, .any, .any] ∧ Sol I (holds S2 (ids.take j) (-1)) st ∧ Stp Any I S σ I st) ids.length _
        (Wk.mask [0, 1, 4, 66, 67, 68] ⟨0, by omega, by omega, rfl, hS2, hT2⟩) ?_
      clear hS2 hT2 hin
      rintro m fr st ⟨j, hj, hm', rfl, hS1, hT1⟩
      have hocc : (holds S2 (ids.take j) (-1)).occ = S.occ := (holds_occ _ _ _).trans hm
      have hin := hS1.get (.inn (code l)) (by simp only [has]; rw [hocc]; exact hcl2)
      simp only [ct, hocc, hids] at hin
      rcases Nat.lt_or_ge j ids.length with hlt | hge
      · have hd : decide ((j : Int) < (ids.length : Int)) = true := by simp; omega
        have w2 := wrapS j (by omega)
        have hid := hio _ (getD_mem 0 hlt)
        have hk : okId (holds S2 (ids.take j) (-1)) (ids.getD j 0) := (holds_ok _ _ _ _).2 ((hok1 _).2 hid.1)
        have hcbj := hcb1.holds (d := -1) (by omega) (ids := ids.take j) (fun i hi => (hok1 _).2 (hio i (List.mem_of_mem_take hi)).1)
        simp only [List.length_take] at hcbj
        have hnx : holds S2 (ids.take (j + 1)) (-1) = (holds S2 (ids.take j) (-1)).hold (ids.getD j 0) (-1) := by rw [take_getD 0 hlt, holds_snoc]
        simp only [go_sem, hd, live_of hin, objK_of hin, natsA_len, natsA_get hlt, w2, Nat.mul_one, Try.results38]
        refine ⟨⟨by omega, by omega⟩, hlt, ac' (at_ac hS1 _ hid.2 hk _ _ ?_)⟩
        generalize holds S2 (ids.take j) (-1) = S3 at hS1 hk hcbj hnx hocc
        generalize ids.getD j 0 = id at hk hnx
        have hc := hS1.get (clS id) (has_cl S3 id)
        rw [ct_cl] at hc
        have g1 := clsA_held hk
        have g2 := clsA_setH ((S3.cl id).held + -1) hk
        rw [← cl_eq] at g1
        have hcc := hcbj id hk
        have w3 : IntKind.i64.wrap ((S3.cl id).held - 1) = (S3.cl id).held + -1 := wrap64_id _ (by omega) (by omega)
        have hk' := hk
        unfold okId at hk'
        simp only [go_sem, live_of hc, objK_of hc, clsA_len, g1, g2, w2, w3, Try.results38]
        refine ⟨by omega, by omega, Wk.mask [0, 1, 4, 66, 67, 68] ⟨ids.length - (j + 1), by omega, j + 1, by omega, rfl, rfl, ?_, hT1.trans (SameOcc.has (by unfold SameOcc; rw [hocc])) (stp_put _ (clS id) (has_cl S3 id))⟩⟩
        rw [hnx]
        unfold Sv.hold
        rw [cl_eq]
        exact hS1.putCl hk _
      · have hd : decide ((j : Int) < (ids.length : Int)) = false := by simp; omega
        simp only [go_sem, hd, Try.results38]
        refine Wk.mask [0, 1, 4] ⟨rfl, ?_, hT1⟩
        rw [List.take_of_length_le hge] at hS1
        exact hS1
    clear hS2 hT2
    rintro fr st ⟨rfl, hS2, hT2⟩
    have hm2 : (holds S2 ids (-1)).occ = S.occ := (holds_occ _ _ _).trans hm
    have hok2 : ∀ id, okId (holds S2 ids (-1)) id ↔ okId S id := fun id => (holds_ok _ _ _ _).trans (hok1 id)
    have hcb2 := hcb1.holds (d := -1) (by omega) (ids := ids) (fun i hi => (hok1 _).2 (hio i hi).1)
    generalize holds S2 ids (-1) = S4 at hS2 hm2 hok2 hcb2 hde
    have w0 : IntKind.i64.wrap (0 - l) = -l := by have := hlv0; unfold LitV at this; rw [wrap64_id _ (by omega) (by omega)]; omega
    have hin := hS2.live (.inn (code (-l))) (by simp only [has]; rw [hm2]; exact hcn2)
    simp only [go_sem, Try.results38]
    refine aw_plan (.take 0 <| .tk 2 4 <| .take 10 <| .pure 6 <| .tk 3 1 <| .tk 3 7 <| .done) (by kernel_rfl) ?_
    simp only [go_sem, w0, Try.results38]
    refine exP (dn (code (-l))) ⟨fun σ' => ?_, ?_⟩
    · simp only [go_sem, w0, Try.results38]
      exact ac' (code_ac (-l) (hlv0.neg.big hv) _ _ _ ⟨rfl, rfl⟩)
    simp only [go_sem, hS2.live .st, hS2.ob .st, hS2.live .occ, hS2.ob .occ, ct, hm2, List.length_map, List.length_range, occ_get _ hcn2, innA, hids2, hin, Nat.mul_one, Try.results38]
    refine ⟨⟨by omega, by omega⟩, hcn2, ?_⟩
    refine aw_loop (fun m fr st => ∃ j : Nat, j ≤ js.length ∧ m = js.length - j ∧ fr = [.ref (I .st) 0, dn n, .any, .any, di l, .any, .any, .any, .any, .any, .any, .any, .any, .any, .any, .any, .any, .any, .any, .any, .any, .any, .any, .any, .any, .any, .any, .any, .any, .any, .any, .any, .any, .any, .any, .any, .any, .any, .any, .any, .any, .any, .any, .any, .any, .any, .any, .any, .any, .any, .any, .any, .any, .any, .any, .any, .any, .any, .any, .any, .any, .any, .any, .any, .any, .any, .any, .any, .any, .any, .any, .any, .any, .any, .any, .any, .any, .any, .any, .any, .any, .any, .any, .any, .any, .any, .any, .any, .any, .any, .rs (I (.inn (code (-l)))) 1 0 js.length (some 3), dn js.length, dn j, .any, .any, .any, .any, .any, .any, .any, .any, .any, .any, .any, .any, .any] ∧ Sol I (opens S4 (js.take j) 1) st ∧ Stp Any I S σ I st) js.length _
      (Wk.mask [0, 1, 4, 90, 91, 92] ⟨0, by omega, by omega, rfl, hS2, hT2⟩) ?_
    clear hS2 hT2 hin
    rintro m fr st ⟨j, hj, hm', rfl, hS5, hT5⟩
    have hocc : (opens S4 (js.take j) 1).occ = S.occ := (opens_occ _ _ _).trans hm2
    have hin := hS5.get (.inn (code (-l))) (by simp only [has]; rw [hocc]; exact hcn2)
    simp only [ct, hocc, hids2] at hin
    rcases Nat.lt_or_ge j js.length with hlt2 | hge
    · have hd : decide ((j : Int) < (js.length : Int)) = true := by simp; omega
      have w2 := wrapS j (by omega)
      have hid := hno _ (getD_mem 0 hlt2)
      have hk : okId (opens S4 (js.take j) 1) (js.getD j 0) := (opens_ok _ _ _ _).2 ((hok2 _).2 hid.1)
      have hcbj := hcb2.opens (d := 1) (by omega) (ids := js.take j) (fun i hi => (hok2 _).2 (hno i (List.mem_of_mem_take hi)).1)
      simp only [List.length_take] at hcbj
      have hnx : opens S4 (js.take (j + 1)) 1 = (opens S4 (js.take j) 1).openD (js.getD j 0) 1 := by rw [take_getD 0 hlt2, opens_snoc]
      simp only [go_sem, hd, live_of hin, objK_of hin, natsA_len, natsA_get hlt2, w2, Nat.mul_one, Try.results38]
      refine ⟨⟨by omega, by omega⟩, hlt2, ac' (at_ac hS5 _ hid.2 hk _ _ ?_)⟩
      generalize opens S4 (js.take j) 1 = S6 at hS5 hk hcbj hnx hocc
      generalize js.getD j 0 = id at hk hnx
      have hc := hS5.get (clS id) (has_cl S6 id)
      rw [ct_cl] at hc
      have g1 := clsA_opn hk
      have g2 := clsA_setO ((S6.cl id).opn + 1) hk
      rw [← cl_eq] at g1
      have hcc := hcbj id hk
      have w3 : IntKind.i64.wrap ((S6.cl id).opn + 1) = (S6.cl id).opn + 1 := wrap64_id _ (by omega) (by omega)
      have hk' := hk
      unfold okId at hk'
      simp only [go_sem, live_of hc, objK_of hc, clsA_len, g1, g2, w2, w3, Try.results38]
      refine ⟨by omega, by omega, Wk.mask [0, 1, 4, 90, 91, 92] ⟨js.length - (j + 1), by omega, j + 1, by omega, rfl, rfl, ?_, hT5.trans (SameOcc.has (by unfold SameOcc; rw [hocc])) (stp_put _ (clS id) (has_cl S6 id))⟩⟩
      rw [hnx]
      unfold Sv.openD
      rw [cl_eq]
      exact hS5.putCl hk _
    · have hd : decide ((j : Int) < (js.length : Int)) = false := by simp; omega
      simp only [go_sem, hd, Try.results38]
      rw [List.take_of_length_le hge, ← hde] at hS5
      have htl := drop1_trail S1 l
      have hll : (S1.drop1 l).trail.length = S1.trail.length - 1 := by rw [htl, List.length_dropLast]
      refine Wk.mask [0, 1] ⟨S1.trail.length - 1, by omega, S1.drop1 l, hll.symm, rfl, hS5, hT5, drop1_sh hs1 l, (drop1_vars _ _).trans hv1, (drop1_occ _ _).trans ho1, fun id => (drop1_ok _ _ _).trans (hk1 id), fun x hx => hl1 x ?_, by omega, ?_, ?_, by rw [← hstep]; exact hr1⟩
      · rw [htl] at hx; exact List.dropLast_subset _ hx
      · rw [hf2]; exact Nat.le_trans (Nat.min_le_left _ _) hf1
      · refine hdc.mono ?_
        rw [hll]
        have : (1000000 - (S1.trail.length - 1)) * 2000000 = (1000000 - S1.trail.length) * 2000000 + 2000000 := by omega
        omega
  · have hd : decide ((n : Int) < (S1.trail.length : Int)) = false := by simp; omega
    simp only [go_sem, hS1.live .st, hS1.ob .st, hS1.live .trail, ct, hd, Try.results38]
    rw [retract_done hge] at hr1
    rw [← hr1] at h
    exact ⟨_, _, Weak.refl _ _ _ _, h _ _ _ hS1 hT1⟩
end Go.Proofs.Ytnanofipjiclfaa
end PartT7

section PartT8
/- enter. -/
set_option linter.unusedSimpArgs false
set_option linter.unusedVariables false
set_option maxRecDepth 100000
namespace Go.Proofs.Ytnanofipjiclfaa
open Go Go.Ab
variable {I : Sl → Nat} {S : Sv} {σ : St}

theorem Sol.less (h : Sol I S σ) (s t : Sl) (hs : has S s) (ht : has S t) (hst : s ≠ t) (l : St) : (σ.set (I s) none ++ l)[I t]? = some (some (.cells (ct I S t))) := by
  rw [List.getElem?_append_left (by rw [List.length_set]; exact h.lt t ht), set_other (h.ne hst hs ht)]
  exact h.get t ht
def occ1 (S : Sv) (c id : Nat) : Sv := { S with occ := S.occ.set c (S.occ.getD c [] ++ [id]) }
theorem occ1_has (S : Sv) (c id : Nat) (t : Sl) : has (occ1 S c id) t ↔ has S t := by
  cases t <;> first | exact Iff.rfl | simp [has, occ1]
/-- A literal's place gets a number: it lies anew. -/
theorem Sol.growInn (h : Sol I S σ) (c id : Nat) (hc : c < S.occ.length) (n : Nat) (hn : n = σ.length) {new cs : List A} (hnew : new = natsA (S.occ.getD c [] ++ [id])) (hcs : cs = ct (upI I (.inn c) n) (occ1 S c id) .occ) :
    Sol (upI I (.inn c) n) (occ1 S c id) (((σ.set (I (.inn c)) none) ++ [some (Ob.cells new)]).set (I .occ) (some (Ob.cells cs))) := by
  have hi : has S (.inn c) := hc
  have hl := fun t (ht : has S t) => h.lt t ht
  have h1 := hl .occ trivial
  have hget : (S.occ.set c (S.occ.getD c [] ++ [id])).getD c [] = S.occ.getD c [] ++ [id] := by
    rw [List.getD_eq_getElem?_getD, List.getElem?_set, if_pos rfl, if_pos hc]; rfl
  refine ⟨fun t ht => ?_, fun a b ha hb => ?_⟩
  · have htt := (occ1_has S c id t).1 ht
    by_cases e : t = .inn c
    · subst e
      rw [upI_same, set_other (by omega), List.getElem?_append_right (by rw [List.length_set]; omega), List.length_set, hn, Nat.sub_self, hnew]
      simp only [ct, occ1, hget]; rfl
    · rw [upI_other _ _ e]
      by_cases e' : t = .occ
      · subst e'
        rw [List.getElem?_set, if_pos rfl, if_pos (by simp; omega), hcs]
      · rw [set_other (h.ne (s := .occ) (t := t) (Ne.symm e') trivial htt), h.less (.inn c) t hi htt (Ne.symm e) _]
        congr 3
        cases t <;> first | rfl | exact absurd rfl e' | skip
        · simp [ct, occ1, upI, valA, coreA]
        · rename_i d
          have hd : c ≠ d := fun hcd => e (by rw [hcd])
          simp only [ct, occ1, getD_set_ne hd]
  · have ha' := (occ1_has S c id a).1 ha
    have hb' := (occ1_has S c id b).1 hb
    have la := hl a ha'
    have lb := hl b hb'
    unfold upI
    split <;> split <;> rename_i e1 e2
    · exact fun _ => e1.trans e2.symm
    · intro e; omega
    · intro e; omega
    · exact h.inj a b ha' hb'
abbrev Inn : Sl → Prop := fun s => ∃ c, s = .inn c
theorem stp_growInn (h : Sol I S σ) (c : Nat) (hc : c < S.occ.length) (n : Nat) (hn : n = σ.length) {new cs : List A} :
    Stp Inn I S σ (upI I (.inn c) n) (((σ.set (I (.inn c)) none) ++ [some (Ob.cells new)]).set (I .occ) (some (Ob.cells cs))) := by
  refine ⟨by simp, upI_other _ _ (by intro e; cases e), fun t => ?_, fun id hid hne => ?_⟩
  · by_cases e : t = .inn c
    · subst e; rw [upI_same]; exact .inr ⟨by omega, c, rfl⟩
    · rw [upI_other _ _ e]; exact .inl rfl
  · rw [set_other (Ne.symm (hne .occ trivial)), List.getElem?_append_left (by rw [List.length_set]; exact hid), set_other (Ne.symm (hne (.inn c) hc))]
/-- The places' cells, one of them anew. -/
theorem occ_set {n c : Nat} (f : Nat → A) (x : A) (hc : c < n) : ((List.range n).map f).take c ++ x :: ((List.range n).map f).drop (c + 1) = (List.range n).map fun d => if d = c then x else f d := by
  apply List.ext_getElem?
  intro k
  have hl : (((List.range n).map f).take c).length = c := by simp; omega
  rcases Nat.lt_trichotomy k c with hk | hk | hk
  · rw [List.getElem?_append_left (by omega), List.getElem?_take_of_lt hk, List.getElem?_map, List.getElem?_map, List.getElem?_range (by omega)]
    simp; omega
  · subst hk
    rw [List.getElem?_append_right (by omega), hl, Nat.sub_self, List.getElem?_cons_zero, List.getElem?_map, List.getElem?_range hc]
    simp
  · rw [List.getElem?_append_right (by omega), hl]
    obtain ⟨j, rfl⟩ : ∃ j, k = c + 1 + j := ⟨k - (c + 1), by omega⟩
    rw [show c + 1 + j - c = j + 1 by omega, List.getElem?_cons_succ, List.getElem?_drop, List.getElem?_map, List.getElem?_map]
    rcases Nat.lt_or_ge (c + 1 + j) n with h | h
    · rw [List.getElem?_range h]; simp; omega
    · rw [List.getElem?_eq_none (by simpa using h)]; rfl
end Go.Proofs.Ytnanofipjiclfaa
end PartT8

section PartT9
/- enter: the walk. -/
set_option linter.unusedSimpArgs false
set_option linter.unusedVariables false
set_option maxRecDepth 100000
namespace Go.Proofs.Ytnanofipjiclfaa
open Go Go.Ab
variable {I : Sl → Nat} {S : Sv} {σ : St}

def clD (c : Cl) : D := .agg [isD c.lits, iD c.opn, iD c.held]
/-- While a clause enters: its own object, and the one for the result. -/
structure En (I : Sl → Nat) (S : Sv) (σ : St) (m : Nat) (I' : Sl → Nat) (S' : Sv) (c : Cl) (st : St) : Prop where
  sol : Sol I' S' st
  stp : Stp Inn I S σ I' st
  ce : st[σ.length + 1]? = some (some (.cells (clA c)))
  re : st[σ.length]? = some (some (.cells [.d .nils, di 0, di 0]))
  off : ∀ s, has S' s → I' s ≠ σ.length ∧ I' s ≠ σ.length + 1
  sh : Sh S'
  vars : S'.vars = S.vars
  occ : ∀ d, (S'.occ.getD d []).length ≤ 1000000 + m
  o0 : 0 ≤ c.opn ∧ c.opn ≤ m
  h0 : 0 ≤ c.held ∧ c.held ≤ m
  stamp : S'.stamp = S.stamp + 1
  occl : S'.occ.length = S.occ.length
theorem enter1_skip {id : Nat} {p : Sv × Cl} {l : Int} (h : p.1.last.getD (code l) 0 = p.1.stamp) : Sv.enter1 id p l = p := by unfold Sv.enter1; rw [if_pos h]
set_option maxHeartbeats 8000000 in
theorem enter_ac (hS : Sol I S σ) (hs : Sh S) (lits : List Int) (hl : ∀ l ∈ lits, LitV S.vars l) (hn : lits.length ≤ 1000000) (id : Nat) (hid : id < 1000000) (hocc : ∀ d, (S.occ.getD d []).length ≤ 1000000) (hstamp : S.stamp ≤ 1000000000000)
    (G : Glob) (R : A → St → Prop) (h : ∀ I' σ', Sol I' (S.enter lits id).1 σ' → Stp Inn I S σ I' σ' → R (.d (clD (S.enter lits id).2)) σ') : AC Try.prog G 36 [.ref (I .st) 0, .d (isD lits), dn id] σ R := by
  have hv := hs.vars
  unfold isD
  refine ac_enterC' [3, 7, 8, 9, 11] mixed Try.func36 rfl Try.ntmps36 (by simp only [go_sem]) fun hbd => ?_
  simp only [List.length_cons, List.length_nil, Nat.reduceAdd, Nat.reduceSub, List.replicate_succ, List.replicate_zero, List.cons_append, List.nil_append]
  have hS1 := hS.app [some (.cells [.d .nils, di 0, di 0]), some (.cells [.d (isD lits), di 0, di 0])]
  have w1 := wrapS S.stamp (by omega)
  simp only [go_sem, Try.results36]
  refine aw_cut (fun fr st => fr = [.ref (I .st) 0, .d (isD lits), dn id, .any, .any, .any, .ref σ.length 0, .ref (σ.length + 1) 0, .any, .any, .any, .any, .any, .any, .any, .any, .any, .any, .any, .any, .any, .any, .any, .any, .any, .any, .any, .any, .any, .any, .any, .any, .any, .any, .any, .any, .any, .any, .any, .any, .any, .any, .any, .any, .any, .any, .any, .any, .any, .any, .any, .any, .any, .any, .any, .any, .any, .any, .any, .any, .any, .any, .any, .any, .any, .any, .any, .any, .any, .any, .any, .any, .any, .any, .any, .any, .any, .any, .any, .any, .any, .any, .any, .any, .any, .any, .any, .any, .any, .any, .any, .any, .any, .any, .any] ∧ En I S σ 0 I { S with stamp := S.stamp + 1 } ⟨lits, 0, 0⟩ st) ?_ ?_
  · have hS1' : Sol I S (σ ++ [some (.cells [.d .nils, di 0, di 0]), some (.cells [.d (.sl 1 (lits.map iD)), di 0, di 0])]) := hS1
    simp only [go_sem, hS1'.live .st, hS1'.ob .st, ct, w1, Try.results36]
    refine Wk.mask [0, 1, 2, 6, 7] ⟨rfl, hS1.put .st trivial (fun t => by cases t <;> exact Iff.rfl) (by rfl) (fun t ht => by cases t <;> first | rfl | exact absurd rfl ht), Stp.pre (stp_put _ .st trivial), ?_, ?_, fun s hs => ?_, ⟨hs.1, hs.2, hs.3, hs.4, hs.5, hs.6, hs.7⟩, rfl, fun d => by have := hocc d; simpa using this, ⟨Int.le_refl _, Int.le_refl _⟩, ⟨Int.le_refl _, Int.le_refl _⟩, rfl, rfl⟩
    · rw [set_other (by have := hS.lt .st; omega), List.getElem?_append_right (by omega), Nat.add_sub_cancel_left]; rfl
    · rw [set_other (by have := hS.lt .st; omega), List.getElem?_append_right (by omega), Nat.sub_self]; rfl
    · have := hS.lt s hs; constructor <;> omega
  clear hS1
  rintro fr st ⟨rfl, hE⟩
  unfold Sv.enter at h
  generalize hp0 : (({ S with stamp := S.stamp + 1 } : Sv), (⟨lits, 0, 0⟩ : Cl)) = p0 at h
  have hE0 : En I S σ 0 I p0.1 p0.2 st := by rw [← hp0]; exact hE
  clear hE hp0
  unfold isD
  simp only [go_sem, List.length_map, Try.results36]
  refine aw_loop (fun m fr st => ∃ (j : Nat) (I' : Sl → Nat), j ≤ lits.length ∧ m = lits.length - j ∧ fr = [.ref (I .st) 0, .d (isD lits), dn id, .any, .any, .any, .ref σ.length 0, .ref (σ.length + 1) 0, .any, .any, .any, .any, .any, .any, .any, .any, .any, .any, .any, .d (isD lits), dn lits.length, dn j, .any, .any, .any, .any, .any, .any, .any, .any, .any, .any, .any, .any, .any, .any, .any, .any, .any, .any, .any, .any, .any, .any, .any, .any, .any, .any, .any, .any, .any, .any, .any, .any, .any, .any, .any, .any, .any, .any, .any, .any, .any, .any, .any, .any, .any, .any, .any, .any, .any, .any, .any, .any, .any, .any, .any, .any, .any, .any, .any, .any, .any, .any, .any, .any, .any, .any, .any, .any, .any, .any, .any, .any, .any] ∧ En I S σ j I' ((lits.take j).foldl (Sv.enter1 id) p0).1 ((lits.take j).foldl (Sv.enter1 id) p0).2 st) lits.length _
    (Wk.mask [0, 1, 2, 6, 7, 19, 20, 21] ⟨0, I, by omega, by omega, rfl, hE0⟩) ?_
  clear hE0
  rintro m fr st ⟨j, I1, hj, hm, rfl, hE⟩
  rcases Nat.lt_or_ge j lits.length with hlt | hge
  · have hd : decide ((j : Int) < (lits.length : Int)) = true := by simp; omega
    have w2 := wrapS j (by omega)
    have hlv := hl _ (getD_mem 0 hlt)
    have g0 : List.getD (lits.map iD) j default = iD (lits.getD j 0) := getD_mapD hlt
    have hnx : (lits.take (j + 1)).foldl (Sv.enter1 id) p0 = Sv.enter1 id ((lits.take j).foldl (Sv.enter1 id) p0) (lits.getD j 0) := by rw [take_getD 0 hlt, List.foldl_append]; rfl
    generalize hpj : (lits.take j).foldl (Sv.enter1 id) p0 = pj at hE hnx
    generalize lits.getD j 0 = l at hlv g0 hnx
    obtain ⟨S1, c1⟩ := pj
    simp only at hE hnx
    have hc1 : code l < S1.last.length := by rw [hE.sh.last, hE.vars]; exact hlv.codeLt
    have hcT : code l < S1.truth.length := by rw [hE.sh.truth, hE.vars]; exact hlv.codeLt
    have hcN : code (-l) < S1.truth.length := by rw [hE.sh.truth, hE.vars]; exact hlv.neg.codeLt
    have hcO : code l < S1.occ.length := by rw [hE.sh.occ, hE.vars]; exact hlv.codeLt
    have hS1 := hE.sol
    have hst1 := hE.stp.st
    have eb : ((S1.last.getD (code l) 0 : Int) == (S1.stamp : Int)) = decide (S1.last.getD (code l) 0 = S1.stamp) := by rw [Bool.eq_iff_iff]; simp only [beq_iff_eq, decide_eq_true_eq]; omega
    unfold isD
    simp only [go_sem, List.length_map, hd, g0, w2, Try.results36]
    refine ⟨⟨by omega, by omega⟩, ?_⟩
    rw [← hst1]
    refine aw_cut (fun fr st => fr = [.ref (I1 .st) 0, .d (isD lits), dn id, .any, .any, .any, .ref σ.length 0, .ref (σ.length + 1) 0, .any, di l, .any, .any, .any, .any, .any, .any, .any, .any, .any, .d (isD lits), dn lits.length, dn j, .any, .any, .any, .any, .any, .any, .any, .any, .any, .any, .any, .any, .any, .any, .any, .any, .any, .any, .any, .any, .any, .any, .any, .any, .any, .any, .any, .any, .any, .any, .any, .any, .any, .any, .any, .any, .any, .any, .any, .any, .any, .any, .any, .any, .any, .any, .any, .any, .any, .any, .any, .any, .any, .any, .any, .any, .any, .any, .any, .any, .any, .any, .any, .any, .any, .any, .any, .any, .any, .any, .any, .any, .any] ∧ S1.last.getD (code l) 0 ≠ S1.stamp ∧ En I S σ j I1 S1 c1 st) ?_ ?_
    · simp only [go_sem, Try.results36]
      refine aw_plan (.take 0 <| .take 4 <| .take 8 <| .pure 5 <| .tk 3 1 <| .tk 2 6 <| .tk 4 9 <| .done) (by kernel_rfl) ?_
      simp only [go_sem, Try.results36]
      refine exP (dn (code l)) ⟨fun σ' => ?_, ?_⟩
      · simp only [go_sem, Try.results36]
        exact ac' (code_ac l (hlv.big hv) _ _ _ ⟨rfl, rfl⟩)
      simp only [go_sem, hS1.live .st, hS1.ob .st, hS1.live .last, hS1.ob .last, ct, natsA_len, natsA_get hc1, eb, w2, Nat.mul_one, Try.results36]
      refine ⟨⟨by omega, by omega⟩, hc1, fun c => ?_, fun c => ?_⟩
      · rw [decide_eq_true_eq] at c
        refine Wk.mask [0, 1, 2, 6, 7, 19, 20, 21] ⟨lits.length - (j + 1), by omega, j + 1, I1, by omega, rfl, by rw [hst1]; rfl, ?_⟩
        rw [hnx, enter1_skip c]
        show En I S σ (j + 1) I1 S1 c1 st
        exact { hE with occ := fun d => Nat.le_succ_of_le (hE.occ d), o0 := ⟨hE.o0.1, by have := hE.o0.2; omega⟩, h0 := ⟨hE.h0.1, by have := hE.h0.2; omega⟩ }
      · rw [decide_eq_false_iff_not] at c
        exact Wk.mask [0, 1, 2, 6, 7, 9, 19, 20, 21] ⟨rfl, c, hE⟩
    have hoj := hE.o0
    have hhj := hE.h0
    clear hS1
    rintro fr st ⟨rfl, hne, hE⟩
    have hS1 := hE.sol
    unfold isD
    simp only [go_sem, Try.results36]
    refine aw_cut (fun fr st => fr = [.ref (I1 .st) 0, .d (isD lits), dn id, .any, .any, .any, .ref σ.length 0, .ref (σ.length + 1) 0, .any, di l, .any, .any, .any, .any, .any, .any, .any, .any, .any, .d (isD lits), dn lits.length, dn j, .any, .any, .any, .any, .any, .any, .any, .any, .any, .any, .any, .any, .any, .any, .any, .any, .any, .any, .any, .any, .any, .any, .any, .any, .any, .any, .any, .any, .any, .any, .any, .any, .any, .any, .any, .any, .any, .any, .any, .any, .any, .any, .any, .any, .any, .any, .any, .any, .any, .any, .any, .any, .any, .any, .any, .any, .any, .any, .any, .any, .any, .any, .any, .any, .any, .any, .any, .any, .any, .any, .any, .any, .any] ∧ En I S σ j I1 { S1 with last := S1.last.set (code l) S1.stamp } c1 st) ?_ ?_
    · simp only [go_sem, Try.results36]
      refine aw_plan (.take 0 <| .take 4 <| .take 6 <| .pure 5 <| .tk 3 1 <| .tk 5 7 <| .done) (by kernel_rfl) ?_
      simp only [go_sem, Try.results36]
      refine exP (dn (code l)) ⟨fun σ' => ?_, ?_⟩
      · simp only [go_sem, Try.results36]
        exact ac' (code_ac l (hlv.big hv) _ _ _ ⟨rfl, rfl⟩)
      simp only [go_sem, hS1.live .st, hS1.ob .st, hS1.live .last, hS1.ob .last, ct, natsA_len, natsA_set _ hc1, Nat.mul_one, Try.results36]
      refine ⟨⟨by omega, by omega⟩, by omega, Wk.mask [0, 1, 2, 6, 7, 9, 19, 20, 21] ⟨rfl, ?_⟩⟩
      have hof := hE.off .last trivial
      exact { sol := hS1.put .last trivial (fun t => by cases t <;> exact Iff.rfl) rfl (fun t ht => by cases t <;> first | rfl | exact absurd rfl ht | simp [ct, valA, coreA])
              stp := hE.stp.trans (SameOcc.has hE.occl) (stp_put _ .last trivial)
              ce := by rw [set_other hof.2]; exact hE.ce
              re := by rw [set_other hof.1]; exact hE.re
              off := fun s hs => hE.off s hs
              sh := ⟨hE.sh.1, hE.sh.2, by simpa using hE.sh.3, hE.sh.4, hE.sh.5, hE.sh.6, hE.sh.7⟩
              vars := hE.vars, occ := hE.occ, o0 := hE.o0, h0 := hE.h0, stamp := hE.stamp, occl := hE.occl }
    clear hS1 hE
    rintro fr st ⟨rfl, hE⟩
    have hS1 := hE.sol
    have hnx2 : Sv.enter1 id (S1, c1) l = (occ1 { S1 with last := S1.last.set (code l) S1.stamp } (code l) id, ⟨c1.lits, if S1.tr (-l) then c1.opn else c1.opn + 1, if S1.tr l then c1.held + 1 else c1.held⟩) := by
      unfold Sv.enter1; rw [if_neg hne]; rfl
    rw [hnx2] at hnx
    unfold isD
    simp only [go_sem, Try.results36]
    refine aw_cut (fun fr st => fr = [.ref (I1 .st) 0, .d (isD lits), dn id, .any, .any, .any, .ref σ.length 0, .ref (σ.length + 1) 0, .any, di l, .any, .any, .any, .any, .any, .any, .any, .any, .any, .d (isD lits), dn lits.length, dn j, .any, .any, .any, .any, .any, .any, .any, .any, .any, .any, .any, .any, .any, .any, .any, .any, .any, .any, .any, .any, .any, .any, .any, .any, .any, .any, .any, .any, .any, .any, .any, .any, .any, .any, .any, .any, .any, .any, .any, .any, .any, .any, .any, .any, .any, .any, .any, .any, .any, .any, .any, .any, .any, .any, .any, .any, .any, .any, .any, .any, .any, .any, .any, .any, .any, .any, .any, .any, .any, .any, .any, .any, .any] ∧ ∃ I2, I2 .st = I1 .st ∧ En I S σ (j + 1) I2 (occ1 { S1 with last := S1.last.set (code l) S1.stamp } (code l) id) c1 st) ?_ ?_
    · have hi : has { S1 with last := S1.last.set (code l) S1.stamp } (.inn (code l)) := hcO
      have hS2 := hS1.app [some (.cells [dn id])]
      have gs := hS2.less (.inn (code l)) .st hi trivial (by intro e; cases e)
      have go := hS2.less (.inn (code l)) .occ hi trivial (by intro e; cases e)
      have q0 : decide (I1 (.inn (code l)) < st.length) = true := decide_eq_true (hS1.lt _ hi)
      have hin := hS2.live (.inn (code l)) hi
      have hob := fun k => hS2.ob (.inn (code l)) hi (k := k)
      have hlen := hE.occ (code l)
      simp only at hlen
      simp only [go_sem, Try.results36]
      refine aw_plan (.take 0 <| .take 4 <| .take 6 <| .take 10 <| .take 14 <| .pure 5 <| .pure 11 <| .tk 3 7 <| .tk 2 12 <| .alt 1 (.alt 2 (.alt 3 (.tk 4 15 <| .done) <| .alt 15 (.alt 3 (.tk 3 16 <| .done) <| .alt 16 (.take 3 <| .tk 2 17 <| .done) <| .stop) <| .stop) <| .alt 15 (.alt 2 (.alt 3 (.tk 3 16 <| .done) <| .alt 16 (.take 3 <| .tk 2 17 <| .done) <| .stop) <| .alt 16 (.tk 2 2 <| .tk 2 17 <| .done) <| .stop) <| .stop) <| .alt 15 (.alt 1 (.alt 2 (.alt 3 (.tk 3 16 <| .done) <| .alt 16 (.take 3 <| .tk 2 17 <| .done) <| .stop) <| .alt 16 (.tk 2 2 <| .tk 2 17 <| .done) <| .stop) <| .alt 16 (.tk 3 1 <| .tk 2 17 <| .done) <| .stop) <| .stop) (by kernel_rfl) ?_
      simp only [go_sem, Try.results36]
      refine exP (dn (code l)) ⟨fun σ' => ?_, ?_⟩
      · simp only [go_sem, Try.results36]
        exact ac' (code_ac l (hlv.big hv) _ _ _ ⟨rfl, rfl⟩)
      simp only [go_sem, Try.results36]
      refine exP (dn (code l)) ⟨fun σ' => ?_, ?_⟩
      · simp only [go_sem, Try.results36]
        exact ac' (code_ac l (hlv.big hv) _ _ _ ⟨rfl, rfl⟩)
      simp only [go_sem, hS1.live .st, hS1.ob .st, hS1.live .occ, hS1.ob .occ, hS2.live .st, hS2.ob .st, hS2.live .occ, hS2.ob .occ, fun l => live_of (gs l), fun l k => objK_of (k := k) (gs l), fun l => live_of (go l), fun l k => objK_of (k := k) (go l), hin, hob, ct, List.length_map, List.length_range, occ_get _ hcO, innA, natsA_len, Nat.mul_one, Try.results36]
      refine ⟨⟨by omega, by omega⟩, hcO, ⟨by simp only [maxLen]; omega, by omega⟩, ⟨by omega, by omega⟩, ⟨live_new (by simp), by omega⟩, Wk.mask [0, 1, 2, 6, 7, 9, 19, 20, 21] ⟨rfl, upI I1 (.inn (code l)) (st.length + 1), upI_other _ _ (by intro e; cases e), ?_⟩⟩
      have hlt7 := lt_of_some hE.ce
      have hT3 := stp_growInn hS2 (code l) hcO (st.length + 1) (by simp) (new := natsA (S1.occ.getD (code l) []) ++ [A.d (D.int IntKind.i64 (id : Int))]) (cs := List.take (code l) (List.map (innA I1 { S1 with last := S1.last.set (code l) S1.stamp }) (List.range S1.occ.length)) ++ A.rs (st.length + 1) 1 0 ((S1.occ.getD (code l) []).length + 1) (some 3) :: List.drop (code l + 1) (List.map (innA I1 { S1 with last := S1.last.set (code l) S1.stamp }) (List.range S1.occ.length)))
      refine { sol := hS2.growInn (code l) id hcO (st.length + 1) (by simp) (natsA_snoc _ _).symm ?_, stp := hE.stp.trans (SameOcc.has hE.occl) (Stp.pre hT3), ce := ?_, re := ?_, off := fun s hs => ?_, sh := ⟨hE.sh.1, by simpa [occ1] using hE.sh.2, hE.sh.3, hE.sh.4, hE.sh.5, hE.sh.6, hE.sh.7⟩, vars := hE.vars, occ := fun d => ?_, o0 := ⟨hE.o0.1, by have := hE.o0.2; omega⟩, h0 := ⟨hE.h0.1, by have := hE.h0.2; omega⟩, stamp := hE.stamp, occl := by simpa [occ1] using hE.occl }
      · rw [occ_set _ _ hcO]
        simp only [ct, occ1, List.length_set]
        refine List.map_congr_left fun d _ => ?_
        by_cases e : d = code l
        · subst e
          rw [if_pos rfl]
          simp only [innA, upI_same]
          rw [List.getD_eq_getElem?_getD, List.getD_eq_getElem?_getD, List.getElem?_set, if_pos rfl, if_pos hcO]
          simp
        · rw [if_neg e]
          simp only [innA]
          rw [upI_other _ _ (by intro h; injection h with h; exact e h), getD_set_ne (Ne.symm e)]
      · rw [hT3.keep (σ.length + 1) (by simp; omega) (fun s hs e => (hE.off s hs).2 e.symm), List.getElem?_append_left hlt7]; exact hE.ce
      · rw [hT3.keep σ.length (by simp; omega) (fun s hs e => (hE.off s hs).1 e.symm), List.getElem?_append_left (by omega)]; exact hE.re
      · rcases hT3.ids s with e | e
        · rw [e]; exact hE.off s ((occ1_has _ _ _ s).1 hs)
        · have := e.1; simp at this; omega
      · simp only [occ1]
        by_cases e : d = code l
        · subst e
          rw [List.getD_eq_getElem?_getD, List.getElem?_set, if_pos rfl, if_pos hcO, Option.getD_some, List.length_append, List.length_cons, List.length_nil]
          omega
        · rw [getD_set_ne (Ne.symm e)]
          have := hE.occ d
          simp only at this
          omega
    clear hS1 hE
    rintro fr st ⟨rfl, I2, hI2, hE⟩
    have hT3 : (occ1 { S1 with last := S1.last.set (code l) S1.stamp } (code l) id).truth = S1.truth := rfl
    generalize occ1 { S1 with last := S1.last.set (code l) S1.stamp } (code l) id = S3 at hE hnx hT3
    rw [← hI2]
    have w0 : IntKind.i64.wrap (0 - l) = -l := by have := hlv; unfold LitV at this; rw [wrap64_id _ (by omega) (by omega)]; omega
    have hS1 := hE.sol
    have hce := hE.ce
    have wo : IntKind.i64.wrap (c1.opn + 1) = c1.opn + 1 := by have := hE.o0; rw [wrap64_id _ (by omega) (by omega)]
    have wh : IntKind.i64.wrap (c1.held + 1) = c1.held + 1 := by have := hE.h0; rw [wrap64_id _ (by omega) (by omega)]
    unfold isD
    simp only [go_sem, Try.results36]
    have hoc : ∀ {x : Option Ob} {c' : Cl}, (0 ≤ c'.opn ∧ c'.opn ≤ ((j + 1 : Nat) : Int)) → (0 ≤ c'.held ∧ c'.held ≤ ((j + 1 : Nat) : Int)) → En I S σ (j + 1) I2 S3 c' (st.set (σ.length + 1) (some (.cells (clA c')))) := fun {x c'} q1 q2 =>
      { sol := hS1.set (fun s hs => (hE.off s hs).2) _
        stp := ⟨by rw [List.length_set]; exact hE.stp.len, hE.stp.st, hE.stp.ids, fun k hk hn => by rw [set_other (by omega)]; exact hE.stp.keep k hk hn⟩
        ce := set_same hce
        re := by rw [set_other (by omega)]; exact hE.re
        off := hE.off, sh := hE.sh, vars := hE.vars, occ := hE.occ, o0 := q1, h0 := q2, stamp := hE.stamp, occl := hE.occl }
    have hh0 := hE.h0
    have e3 : ∀ x, S3.tr x = S1.tr x := fun x => by unfold Sv.tr; rw [hT3]
    simp only [← e3] at hnx
    have hcT3 : code l < S3.truth.length := by rw [hT3]; exact hcT
    have hcN3 : code (-l) < S3.truth.length := by rw [hT3]; exact hcN
    refine aw_cut (fun fr st => fr = [.ref (I2 .st) 0, .d (isD lits), dn id, .any, .any, .any, .ref σ.length 0, .ref (σ.length + 1) 0, .any, di l, .any, .any, .any, .any, .any, .any, .any, .any, .any, .d (isD lits), dn lits.length, dn j, .any, .any, .any, .any, .any, .any, .any, .any, .any, .any, .any, .any, .any, .any, .any, .any, .any, .any, .any, .any, .any, .any, .any, .any, .any, .any, .any, .any, .any, .any, .any, .any, .any, .any, .any, .any, .any, .any, .any, .any, .any, .any, .any, .any, .any, .any, .any, .any, .any, .any, .any, .any, .any, .any, .any, .any, .any, .any, .any, .any, .any, .any, .any, .any, .any, .any, .any, .any, .any, .any, .any, .any, .any] ∧ En I S σ (j + 1) I2 S3 ⟨c1.lits, if S3.tr (-l) then c1.opn else c1.opn + 1, c1.held⟩ st) ?_ ?_
    · simp only [go_sem, Try.results36]
      refine aw_plan (.take 0 <| .tk 2 4 <| .pure 6 <| .tk 3 1 <| .tk 3 7 <| .done) (by kernel_rfl) ?_
      simp only [go_sem, w0, Try.results36]
      refine exP (dn (code (-l))) ⟨fun σ' => ?_, ?_⟩
      · simp only [go_sem, w0, Try.results36]
        exact ac' (code_ac (-l) (hlv.neg.big hv) _ _ _ ⟨rfl, rfl⟩)
      simp only [go_sem, hS1.live .st, hS1.ob .st, hS1.live .truth, hS1.ob .truth, live_of hce, objK_of hce, clA, ct, boolsA_len, boolsA_get hcN3, wo, Nat.mul_one, Try.results36]
      refine ⟨⟨by omega, by omega⟩, hcN3, fun c => ?_, fun c => ?_⟩
      · have ht : S3.tr (-l) = false := by unfold Sv.tr; simpa using c
        refine Wk.mask [0, 1, 2, 6, 7, 9, 19, 20, 21] ⟨rfl, ?_⟩
        rw [ht]
        exact hoc (x := none) (c' := ⟨c1.lits, c1.opn + 1, c1.held⟩) ⟨by simp only; omega, by simp only; omega⟩ hh0
      · have ht : S3.tr (-l) = true := by unfold Sv.tr; simpa using c
        refine Wk.mask [0, 1, 2, 6, 7, 9, 19, 20, 21] ⟨rfl, ?_⟩
        rw [ht]; exact hE
    clear hoc hS1 hce hE
    rintro fr st ⟨rfl, hE⟩
    have hS1 := hE.sol
    have hce := hE.ce
    have ho0 := hE.o0
    have hst2 : I2 .st = I .st := hE.stp.st
    have hfin : ∀ {st'}, En I S σ (j + 1) I2 S3 ⟨c1.lits, if S3.tr (-l) then c1.opn else c1.opn + 1, if S3.tr l then c1.held + 1 else c1.held⟩ st' → En I S σ (j + 1) I2 ((lits.take (j + 1)).foldl (Sv.enter1 id) p0).1 ((lits.take (j + 1)).foldl (Sv.enter1 id) p0).2 st' := fun {st'} h => by rw [hnx]; exact h
    generalize (if S3.tr (-l) then c1.opn else c1.opn + 1) = o at hE hce ho0 hfin
    have hoc : ∀ {c' : Cl}, (0 ≤ c'.opn ∧ c'.opn ≤ ((j + 1 : Nat) : Int)) → (0 ≤ c'.held ∧ c'.held ≤ ((j + 1 : Nat) : Int)) → En I S σ (j + 1) I2 S3 c' (st.set (σ.length + 1) (some (.cells (clA c')))) := fun {c'} q1 q2 =>
      { sol := hS1.set (fun s hs => (hE.off s hs).2) _
        stp := ⟨by rw [List.length_set]; exact hE.stp.len, hE.stp.st, hE.stp.ids, fun k hk hn => by rw [set_other (by omega)]; exact hE.stp.keep k hk hn⟩
        ce := set_same hce
        re := by rw [set_other (by omega)]; exact hE.re
        off := hE.off, sh := hE.sh, vars := hE.vars, occ := hE.occ, o0 := q1, h0 := q2, stamp := hE.stamp, occl := hE.occl }
    unfold isD
    simp only [go_sem, Try.results36]
    refine aw_plan (.take 0 <| .take 4 <| .pure 5 <| .tk 3 1 <| .tk 2 6 <| .done) (by kernel_rfl) ?_
    simp only [go_sem, Try.results36]
    refine exP (dn (code l)) ⟨fun σ' => ?_, ?_⟩
    · simp only [go_sem, Try.results36]
      exact ac' (code_ac l (hlv.big hv) _ _ _ ⟨rfl, rfl⟩)
    simp only [go_sem, hS1.live .st, hS1.ob .st, hS1.live .truth, hS1.ob .truth, live_of hce, objK_of hce, clA, ct, boolsA_len, boolsA_get hcT3, wh, w2, Nat.mul_one, Try.results36]
    refine ⟨⟨by omega, by omega⟩, hcT3, fun c => ?_, fun c => ?_⟩
    · have ht : S3.tr l = true := c
      refine Wk.mask [0, 1, 2, 6, 7, 19, 20, 21] ⟨lits.length - (j + 1), by omega, j + 1, I2, by omega, rfl, by rw [hst2]; rfl, hfin ?_⟩
      rw [ht]
      exact hoc (c' := ⟨c1.lits, o, c1.held + 1⟩) ho0 ⟨by simp only; omega, by simp only; omega⟩
    · have ht : S3.tr l = false := c
      refine Wk.mask [0, 1, 2, 6, 7, 19, 20, 21] ⟨lits.length - (j + 1), by omega, j + 1, I2, by omega, rfl, by rw [hst2]; rfl, hfin ?_⟩
      rw [ht]; exact hE
  · have hd : decide ((j : Int) < (lits.length : Int)) = false := by simp; omega
    rw [List.take_of_length_le hge] at hE
    generalize lits.foldl (Sv.enter1 id) p0 = pn at hE h
    obtain ⟨S2, c2⟩ := pn
    simp only at hE h
    have hce := hE.ce
    have hre := hE.re
    have hrr : (st.set σ.length (some (.cells [A.d (isD c2.lits), A.d (iD c2.opn), A.d (iD c2.held)])))[σ.length]? = some (some (.cells [A.d (isD c2.lits), A.d (iD c2.opn), A.d (iD c2.held)])) := set_same hre
    simp only [go_sem, List.length_map, hd, live_of hce, objK_of hce, live_of hre, objK_of hre, live_of hrr, objK_of hrr, clA, Try.results36]
    refine ⟨_, _, Weak.refl _ _ _ _, h _ _ (hE.sol.set (fun s hs => (hE.off s hs).1) _) ⟨by rw [List.length_set]; exact hE.stp.len, hE.stp.st, hE.stp.ids, fun k hk hn => ?_⟩⟩
    rw [set_other (by omega)]
    exact hE.stp.keep k hk hn
end Go.Proofs.Ytnanofipjiclfaa
end PartT9

section PartT10
/- different. -/
set_option linter.unusedSimpArgs false
set_option linter.unusedVariables false
set_option maxRecDepth 100000
namespace Go.Proofs.Ytnanofipjiclfaa
open Go Go.Ab
variable {I : Sl → Nat} {S : Sv} {σ : St}

/-- Beside the solver, a list of one's own. -/
structure Own (I : Sl → Nat) (S' : Sv) (n : Nat) (il : Nat) (cs : List A) (st : St) : Prop where
  sol : Sol I S' st
  at_ : st[il]? = some (some (.cells cs))
  off : ∀ s, has S' s → I s ≠ il
  ge : n ≤ il
theorem lies_ints (l : List Int) : Lies (intsA l) 1 0 (l.map iD) := by
  refine ⟨fun i x hx => ?_, fun i x j y hx hy => ?_⟩
  · rw [List.getElem?_map, Option.map_eq_some_iff] at hx
    obtain ⟨n, _, rfl⟩ := hx
    rfl
  · rw [List.getElem?_map, Option.map_eq_some_iff] at hx
    obtain ⟨n, hn, rfl⟩ := hx
    have hj : j = 0 := by
      have := lt_of_some hy
      simp [D.cells] at this; omega
    subst hj
    simp [D.cells] at hy
    subst hy
    exact ⟨by simp [intsA, List.getElem?_map, hn], rfl⟩
theorem lies_nats (l : List Nat) : Lies (natsA l) 1 0 (l.map fun n : Nat => iD n) := by
  have := lies_ints (l.map fun n : Nat => (n : Int))
  simpa [intsA, natsA, Function.comp_def] using this
theorem Own.grow {n il : Nat} {cs new : List A} {st : St} (h : Own I S n il cs st) (l : St) (k : Nat) (hk : k = (st ++ l).length) : Own I S n k new (((st ++ l).set il none) ++ [some (.cells new)]) := by
  have hlt := lt_of_some h.at_
  have h1 : Sol I S ((st ++ l).set il none) := (h.sol.app l).set h.off none
  refine ⟨h.sol.app l |>.set h.off none |>.app _, ?_, fun s hs => ?_, ?_⟩
  · rw [List.getElem?_append_right (by rw [List.length_set]; omega), List.length_set, hk, Nat.sub_self]; rfl
  · have := h1.lt s hs
    rw [List.length_set] at this
    omega
  · have := h.ge
    simp at hk; omega
set_option maxHeartbeats 4000000 in
theorem different_ac (hS : Sol I S σ) (hs : Sh S) (lits : List Int) (hl : ∀ l ∈ lits, LitV S.vars l) (hn : lits.length ≤ 1000000) (hstamp : S.stamp ≤ 1000000000000)
    (G : Glob) (R : A → St → Prop) (h : ∀ σ', Sol I (S.different lits).1 σ' → Stp Any I S σ I σ' → R (.d (isD (S.different lits).2)) σ') : AC Try.prog G 40 [.ref (I .st) 0, .d (isD lits)] σ R := by
  have hv := hs.vars
  unfold isD
  refine ac_enterC' [3, 7, 8] mixed Try.func40 rfl Try.ntmps40 (by simp only [go_sem]) fun hbd => ?_
  simp only [List.length_cons, List.length_nil, Nat.reduceAdd, Nat.reduceSub, List.replicate_succ, List.replicate_zero, List.cons_append, List.nil_append]
  have w1 := wrapS S.stamp (by omega)
  simp only [go_sem, Try.results40]
  refine aw_cut (fun fr st => fr = [.ref (I .st) 0, .d (isD lits), .any, .any, .any, .d .nils, .any, .any, .any, .any, .any, .any, .any, .any, .any, .any, .any, .any, .any, .any, .any, .any, .any, .any, .any, .any, .any, .any, .any, .any, .any, .any, .any, .any, .any, .any, .any, .any, .any, .any, .any, .any, .any, .any, .any, .any, .any, .any, .any, .any, .any] ∧ Sol I { S with stamp := S.stamp + 1 } st ∧ Stp Any I S σ I st) ?_ ?_
  · simp only [go_sem, hS.live .st, hS.ob .st, ct, w1, Try.results40]
    exact Wk.mask [0, 1, 5] ⟨rfl, hS.put .st trivial (fun t => by cases t <;> exact Iff.rfl) (by rfl) (fun t ht => by cases t <;> first | rfl | exact absurd rfl ht), stp_put _ .st trivial⟩
  clear hS
  rintro fr st ⟨rfl, hS, hT⟩
  unfold Sv.different at h
  generalize hp0 : (({ S with stamp := S.stamp + 1 } : Sv), ([] : List Int)) = p0 at h
  have hS0 : Sol I p0.1 st := by rw [← hp0]; exact hS
  have hsh0 : Sh p0.1 ∧ p0.1.vars = S.vars ∧ p0.1.occ.length = S.occ.length ∧ p0.2 = [] := by rw [← hp0]; exact ⟨⟨hs.1, hs.2, hs.3, hs.4, hs.5, hs.6, hs.7⟩, rfl, rfl, rfl⟩
  clear hS hp0
  unfold isD
  simp only [go_sem, List.length_map, Try.results40]
  refine aw_loop (fun m fr st => ∃ (j il : Nat), j ≤ lits.length ∧ m = lits.length - j ∧ fr = [.ref (I .st) 0, .d (isD lits), .any, .any, .any, .rs il 1 0 ((lits.take j).foldl Sv.diff1 p0).2.length (some 3), .any, .any, .any, .any, .any, .any, .any, .any, .any, .d (isD lits), dn lits.length, dn j, .any, .any, .any, .any, .any, .any, .any, .any, .any, .any, .any, .any, .any, .any, .any, .any, .any, .any, .any, .any, .any, .any, .any, .any, .any, .any, .any, .any, .any, .any, .any, .any, .any]
      ∧ Own I ((lits.take j).foldl Sv.diff1 p0).1 σ.length il (intsA ((lits.take j).foldl Sv.diff1 p0).2) st ∧ Stp Any I S σ I st ∧ Sh ((lits.take j).foldl Sv.diff1 p0).1 ∧ ((lits.take j).foldl Sv.diff1 p0).1.vars = S.vars ∧ ((lits.take j).foldl Sv.diff1 p0).1.occ.length = S.occ.length ∧ ((lits.take j).foldl Sv.diff1 p0).2.length ≤ j) lits.length _
    (Wk.via (Weak.empty 5 1 (some 3) rfl) (Wk.mask [0, 1, 5, 15, 16, 17] ⟨0, st.length, by omega, by omega, by rw [List.take_zero, List.foldl_nil, hsh0.2.2.2]; rfl, ⟨hS0.app _, by rw [List.take_zero, List.foldl_nil, hsh0.2.2.2, List.getElem?_append_right (by omega), Nat.sub_self]; rfl, fun s hs => by have := hS0.lt s hs; omega, hT.len⟩, ⟨by have := hT.len; simp; omega, hT.st, hT.ids, fun k hk hn => by rw [List.getElem?_append_left (by have := hT.len; omega)]; exact hT.keep k hk hn⟩, hsh0.1, hsh0.2.1, hsh0.2.2.1, by rw [List.take_zero, List.foldl_nil, hsh0.2.2.2]; exact Nat.le_refl _⟩)) ?_
  clear hS0 hT
  rintro m fr st ⟨j, il, hj, hm, rfl, hO, hT, hsh, hvj, hoj, hlj⟩
  rcases Nat.lt_or_ge j lits.length with hlt | hge
  · have hd : decide ((j : Int) < (lits.length : Int)) = true := by simp; omega
    have w2 := wrapS j (by omega)
    have hlv := hl _ (getD_mem 0 hlt)
    have g0 : List.getD (lits.map iD) j default = iD (lits.getD j 0) := getD_mapD hlt
    have hnx : (lits.take (j + 1)).foldl Sv.diff1 p0 = Sv.diff1 ((lits.take j).foldl Sv.diff1 p0) (lits.getD j 0) := by rw [take_getD 0 hlt, List.foldl_append]; rfl
    generalize hpj : (lits.take j).foldl Sv.diff1 p0 = pj at hO hnx hsh hvj hoj hlj
    generalize lits.getD j 0 = l at hlv g0 hnx
    obtain ⟨S1, acc⟩ := pj
    simp only at hO hnx hsh hvj hoj hlj
    have hc1 : code l < S1.last.length := by rw [hsh.last, hvj]; exact hlv.codeLt
    have hS1 := hO.sol
    have eb : ((S1.last.getD (code l) 0 : Int) != (S1.stamp : Int)) = !decide (S1.last.getD (code l) 0 = S1.stamp) := by
      rw [bne]; congr 1; rw [Bool.eq_iff_iff]; simp only [beq_iff_eq, decide_eq_true_eq]; omega
    unfold isD
    simp only [go_sem, List.length_map, hd, g0, w2, Try.results40]
    refine ⟨⟨by omega, by omega⟩, ?_⟩
    refine aw_plan (.take 0 <| .take 4 <| .take 8 <| .pure 5 <| .tk 3 1 <| .tk 2 6 <| .tk 4 9 <| .done) (by kernel_rfl) ?_
    simp only [go_sem, Try.results40]
    refine exP (dn (code l)) ⟨fun σ' => ?_, ?_⟩
    · simp only [go_sem, Try.results40]
      exact ac' (code_ac l (hlv.big hv) _ _ _ ⟨rfl, rfl⟩)
    simp only [go_sem, hS1.live .st, hS1.ob .st, hS1.live .last, hS1.ob .last, ct, natsA_len, natsA_get hc1, eb, w2, Nat.mul_one, Try.results40]
    refine ⟨⟨by omega, by omega⟩, hc1, fun c => ?_, fun c => ?_⟩
    · simp only [Bool.not_eq_true', decide_eq_false_iff_not] at c
      have hd1 : Sv.diff1 (S1, acc) l = ({ S1 with last := S1.last.set (code l) S1.stamp }, acc ++ [l]) := by unfold Sv.diff1; rw [if_neg c]
      rw [hd1] at hnx
      refine aw_cut (fun fr st => fr = [.ref (I .st) 0, .d (isD lits), .any, .any, .any, .rs il 1 0 acc.length (some 3), .any, di l, .any, .any, .any, .any, .any, .any, .any, .d (isD lits), dn lits.length, dn j, .any, .any, .any, .any, .any, .any, .any, .any, .any, .any, .any, .any, .any, .any, .any, .any, .any, .any, .any, .any, .any, .any, .any, .any, .any, .any, .any, .any, .any, .any, .any, .any, .any] ∧ Own I { S1 with last := S1.last.set (code l) S1.stamp } σ.length il (intsA acc) st ∧ Stp Any I S σ I st) ?_ ?_
      · simp only [go_sem, Try.results40]
        refine aw_plan (.take 0 <| .take 4 <| .take 6 <| .pure 5 <| .tk 3 1 <| .tk 5 7 <| .done) (by kernel_rfl) ?_
        simp only [go_sem, Try.results40]
        refine exP (dn (code l)) ⟨fun σ' => ?_, ?_⟩
        · simp only [go_sem, Try.results40]
          exact ac' (code_ac l (hlv.big hv) _ _ _ ⟨rfl, rfl⟩)
        simp only [go_sem, hS1.live .st, hS1.ob .st, hS1.live .last, hS1.ob .last, ct, natsA_len, natsA_set _ hc1, Nat.mul_one, Try.results40]
        refine ⟨⟨by omega, by omega⟩, by omega, Wk.mask [0, 1, 5, 7, 15, 16, 17] ⟨rfl, ⟨hS1.put .last trivial (fun t => by cases t <;> exact Iff.rfl) rfl (fun t ht => by cases t <;> first | rfl | exact absurd rfl ht | simp [ct, valA, coreA]), ?_, hO.off, hO.ge⟩, hT.trans (SameOcc.has hoj) (stp_put _ .last trivial)⟩⟩
        rw [set_other (hO.off .last trivial)]; exact hO.at_
      clear hS1 hO hT
      rintro fr st ⟨rfl, hO, hT⟩
      have hlt5 := lt_of_some hO.at_
      have h5 : (st ++ [some (.cells [di l])])[il]? = some (some (.cells (intsA acc))) := by rw [List.getElem?_append_left hlt5]; exact hO.at_
      have q0 : decide (il < st.length) = true := decide_eq_true hlt5
      unfold isD
      simp only [go_sem, live_of h5, objK_of h5, intsA_len, w2, Nat.mul_one, Try.results40]
      have hO2 := hO.grow (new := intsA (acc ++ [l])) [some (.cells [di l])] (st.length + 1) (by simp)
      refine ⟨⟨by simp only [maxLen]; omega, by omega⟩, Wk.mask [0, 1, 5, 15, 16, 17] ⟨lits.length - (j + 1), by omega, j + 1, st.length + 1, by omega, rfl, by rw [hnx]; simp only [List.length_append, List.length_cons, List.length_nil]; rfl, ?_, ?_, by rw [hnx]; exact ⟨hsh.1, hsh.2, by simpa using hsh.3, hsh.4, hsh.5, hsh.6, hsh.7⟩, by rw [hnx]; exact hvj, by rw [hnx]; exact hoj, by rw [hnx]; simp only [List.length_append, List.length_cons, List.length_nil]; omega⟩⟩
      · rw [hnx, ← intsA_snoc]
        exact ⟨hO2.sol, hO2.at_, hO2.off, by have := hO.ge; omega⟩
      · have := hT.len
        refine ⟨by simp; omega, hT.st, hT.ids, fun k hk hn => ?_⟩
        have h2 := hO.ge
        rw [List.getElem?_append_left (by simp; omega), set_other (by omega), List.getElem?_append_left (by omega)]
        exact hT.keep k hk hn
    · simp only [Bool.not_eq_false', decide_eq_true_eq] at c
      have hd1 : Sv.diff1 (S1, acc) l = (S1, acc) := by unfold Sv.diff1; rw [if_pos c]
      rw [hd1] at hnx
      exact Wk.mask [0, 1, 5, 15, 16, 17] ⟨lits.length - (j + 1), by omega, j + 1, il, by omega, rfl, by rw [hnx]; rfl, by rw [hnx]; exact hO, hT, by rw [hnx]; exact hsh, by rw [hnx]; exact hvj, by rw [hnx]; exact hoj, by rw [hnx]; exact Nat.le_succ_of_le hlj⟩
  · have hd : decide ((j : Int) < (lits.length : Int)) = false := by simp; omega
    rw [List.take_of_length_le hge] at hO hsh hlj ⊢
    generalize lits.foldl Sv.diff1 p0 = pn at hO h hlj
    obtain ⟨S2, acc⟩ := pn
    simp only at hO h hlj
    simp only [go_sem, List.length_map, hd, Try.results40]
    refine ret_via (Weak.freeze il 1 0 (acc.map iD) hO.at_ (lies_ints acc)) ⟨_, _, Weak.refl _ _ _ _, ?_⟩
    have e : A.frz il 1 0 (acc.map iD) (A.rs il 1 0 acc.length (some 3)) = .d (isD acc) := by simp [A.frz, isD]
    rw [e]
    refine h _ (hO.sol.set hO.off none) ⟨by rw [List.length_set]; exact hT.len, hT.st, hT.ids, fun k hk hn => ?_⟩
    rw [set_other (by have := hO.ge; omega)]
    exact hT.keep k hk hn
end Go.Proofs.Ytnanofipjiclfaa
end PartT10

section PartT11
/- begin, decide, refute, keep; the closures of propagate and explain; IndexFunc. -/
set_option linter.unusedSimpArgs false
set_option linter.unusedVariables false
set_option maxRecDepth 100000
namespace Go.Proofs.Ytnanofipjiclfaa
open Go Go.Ab
variable {I : Sl → Nat} {S : Sv} {σ : St}

theorem refute_ac (hS : Sol I S σ) (core : List Int) (G : Glob) (R : A → St → Prop) (h : ∀ σ', Sol I (S.refute core) σ' → Stp Any I S σ I σ' → R (di 2) σ') : AC Try.prog G 50 [.ref (I .st) 0, .d (isD core)] σ R := by
  unfold isD
  refine ac_enter mixed Try.func50 rfl Try.ntmps50 (by simp only [go_sem]) fun hbd => ?_
  simp only [List.length_cons, List.length_nil, Nat.reduceAdd, Nat.reduceSub, List.replicate_succ, List.replicate_zero, List.cons_append, List.nil_append]
  have hS1 := hS.put (S' := S.refute core) .st trivial (fun t => by cases t <;> exact Iff.rfl) rfl (fun t ht => by cases t <;> first | rfl | exact absurd rfl ht)
  have h1 : ∀ cs, (σ.set (I .st) (some (.cells cs)))[I .st]? = some (some (.cells cs)) := fun cs => set_same (hS.get .st trivial)
  simp only [go_sem, hS.live .st, hS.ob .st, ct, fun cs => live_of (h1 cs), fun cs k => objK_of (k := k) (h1 cs), List.set_set, Try.results50]
  exact ⟨_, _, Weak.refl _ _ _ _, h _ hS1 (stp_put _ .st trivial)⟩
/-- The struct while its values are made. -/
def kcs (I : Sl → Nat) (S : Sv) (iv : Nat) : List A := (ct I S .st).take 17 ++ .rs iv 1 0 S.vars (some 4) :: (ct I S .st).drop 18
def kst (I : Sl → Nat) (S : Sv) (σ : St) (vs : List Bool) : St := (σ ++ [some (Ob.cells (boolsA vs))]).set (I .st) (some (.cells (kcs I S σ.length)))
theorem reps (n : Nat) : (List.replicate n [A.d (D.bool false)]).flatten = boolsA (List.replicate n false) := by
  induction n with
  | zero => rfl
  | succ n ih => simp only [List.replicate_succ, List.flatten_cons, ih]; rfl
theorem freezeAt {G : Glob} {n0 : Nat} {fr : Fr} {τ : St} (j i sz off : Nat) (xs : List D) {cs ds : List A} (hj : τ[j]? = some (some (.cells cs))) (hl : Lies cs sz off xs) (hi : τ[i]? = some (some (.cells ds))) (hij : j ≠ i) :
    Weak G n0 fr τ (frzL j sz off xs fr) ((τ.set j none).set i (some (.cells (frzL j sz off xs ds)))) := by
  have := Weak.freezeIn (G := G) (n0 := n0) (fr := fr) (σ := []) (l := τ) j i sz off xs hj hl hi hij
  simpa using this
theorem lies_bools (l : List Bool) : Lies (boolsA l) 1 0 (l.map D.bool) := by
  refine ⟨fun i x hx => ?_, fun i x j y hx hy => ?_⟩
  · rw [List.getElem?_map, Option.map_eq_some_iff] at hx
    obtain ⟨n, _, rfl⟩ := hx
    rfl
  · rw [List.getElem?_map, Option.map_eq_some_iff] at hx
    obtain ⟨n, hn, rfl⟩ := hx
    have hj : j = 0 := by
      have := lt_of_some hy
      simp [D.cells] at this; omega
    subst hj
    simp [D.cells] at hy
    subst hy
    exact ⟨by simp [boolsA, List.getElem?_map, hn], rfl⟩
def valsK (S : Sv) : List Bool := (List.range S.vars).map fun v => S.truth.getD (2 * (v + 1)) false
set_option maxHeartbeats 4000000 in
theorem keep_ac (hS : Sol I S σ) (hs : Sh S) (G : Glob) (R : A → St → Prop) (h : ∀ r σ', Sol I S.keep σ' → Stp Any I S σ I σ' → R r σ') : AC Try.prog G 54 [.ref (I .st) 0] σ R := by
  have hv := hs.vars
  refine ac_enterC' [1, 6] mixed Try.func54 rfl Try.ntmps54 (by simp only [go_sem]) fun hbd => ?_
  simp only [List.length_cons, List.length_nil, Nat.reduceAdd, Nat.reduceSub, List.replicate_succ, List.replicate_zero, List.cons_append, List.nil_append]
  refine aw_cut (fun fr st => fr = [.ref (I .st) 0, .any, .any, .any, .any, .any, .any, .any, .any, .any, .any, .any, .any, .any, .any, .any, .any, .any, .any, .any, .any, .any, .any, .any, .any, .any, .any, .any, .any, .any, .any, .any, .any, .any, .any, .any, .any] ∧ ∃ vs : List Bool, vs.length = S.vars ∧ st = kst I S σ vs) ?_ ?_
  · simp only [go_sem, hS.live .st, hS.ob .st, ct, Try.results54]
    have h1 : (σ ++ [some (.cells (List.replicate S.vars [A.d (D.bool false)]).flatten)])[I .st]? = some (some (.cells (ct I S .st))) := by rw [List.getElem?_append_left (hS.lt .st)]; exact hS.get .st trivial
    simp only [go_sem, live_of h1, objK_of h1, Try.results54]
    refine ⟨by omega, by simp [ct], Wk.mask [0] ⟨rfl, List.replicate S.vars false, by simp, ?_⟩⟩
    unfold kst kcs
    rw [reps]
  rintro fr st ⟨rfl, vs, hvl, rfl⟩
  have hlt := hS.lt .st
  have g1 : ∀ vs, (kst I S σ vs)[I .st]? = some (some (.cells (kcs I S σ.length))) := fun vs => by
    unfold kst; rw [List.getElem?_set, if_pos rfl, if_pos (by simp; omega)]
  have g2 : ∀ vs, (kst I S σ vs)[I .truth]? = some (some (.cells (boolsA S.truth))) := fun vs => by
    unfold kst; rw [set_other (hS.ne (by decide)), List.getElem?_append_left (hS.lt .truth)]; exact hS.get .truth trivial
  have g3 : ∀ vs, (kst I S σ vs)[σ.length]? = some (some (.cells (boolsA vs))) := fun vs => by
    unfold kst; rw [set_other (by omega), List.getElem?_append_right (by omega), Nat.sub_self]; rfl
  have g4 : ∀ vs ws, (kst I S σ vs).set σ.length (some (.cells (boolsA ws))) = kst I S σ ws := fun vs ws => by
    unfold kst
    rw [List.set_comm _ _ (by omega), List.set_append_right _ _ (by omega), Nat.sub_self]; rfl
  have k1 : kcs I S σ.length = (ct I S .st).take 17 ++ .rs σ.length 1 0 S.vars (some 4) :: (ct I S .st).drop 18 := rfl
  simp only [ct, List.take_succ_cons, List.take_zero, List.drop_succ_cons, List.drop_zero, List.cons_append, List.nil_append] at k1
  refine aw_cut (fun fr st => fr = [.ref (I .st) 0, .any, .any, .any, .any, .any, .any, .any, .any, .any, .any, .any, .any, .any, .any, .any, .any, .any, .any, .any, .any, .any, .any, .any, .any, .any, .any, .any, .any, .any, .any, .any, .any, .any, .any, .any, .any] ∧ st = kst I S σ (valsK S)) ?_ ?_
  · simp only [go_sem, live_of (g1 vs), objK_of (g1 vs), k1, Try.results54]
    refine aw_loop (fun m fr st => ∃ (j : Nat) (vs : List Bool), j ≤ S.vars ∧ m = S.vars - j ∧ fr = [.ref (I .st) 0, .any, .any, .any, .any, .any, .any, .any, .any, .any, .any, .any, .any, .any, dn S.vars, dn j, .any, .any, .any, .any, .any, .any, .any, .any, .any, .any, .any, .any, .any, .any, .any, .any, .any, .any, .any, .any, .any] ∧ st = kst I S σ vs ∧ vs.length = S.vars ∧ vs.take j = (valsK S).take j) S.vars _
      (Wk.mask [0, 14, 15] ⟨0, vs, by omega, by omega, rfl, rfl, hvl, rfl⟩) ?_
    clear hvl vs
    rintro m fr st ⟨j, vs, hj, hm, rfl, rfl, hvl, htk⟩
    rcases Nat.lt_or_ge j S.vars with hjl | hge
    · have hd : decide ((j : Int) < (S.vars : Int)) = true := by simp; omega
      have w2 := wrapS j (by omega)
      have w3 : IntKind.i64.wrap (2 * ((j + 1 : Nat) : Int)) = ((2 * (j + 1) : Nat) : Int) := by rw [wrap64_id _ (by omega) (by omega)]; omega
      have hb1 : 2 * (j + 1) < S.truth.length := by rw [hs.truth]; omega
      have hb2 : j < vs.length := by omega
      simp only [go_sem, hd, w2, Try.results54]
      refine aw_plan (.tk 16 0 <| .done) (by kernel_rfl) ?_
      simp only [go_sem, live_of (g1 vs), objK_of (g1 vs), live_of (g2 vs), objK_of (g2 vs), live_of (g3 vs), objK_of (g3 vs), k1, w2, w3, boolsA_len, boolsA_get hb1, boolsA_set _ hb2, g4, Nat.mul_one, Try.results54]
      refine ⟨⟨by omega, by omega⟩, hb1, ⟨by omega, by omega⟩, by omega, Wk.mask [0, 14, 15] ⟨S.vars - (j + 1), by omega, j + 1, vs.set j (S.truth.getD (2 * (j + 1)) false), by omega, rfl, rfl, rfl, by simpa using hvl, ?_⟩⟩
      have hl2 : j < (valsK S).length := by unfold valsK; simp; omega
      rw [take_getD false (by simpa using hb2), take_getD false hl2, List.take_set_of_le (Nat.le_refl j), htk]
      congr 2
      have e1 : (vs.set j (S.truth.getD (2 * (j + 1)) false)).getD j false = S.truth.getD (2 * (j + 1)) false := by
        rw [List.getD_eq_getElem?_getD, List.getElem?_set, if_pos rfl, if_pos hb2]; rfl
      have e2 : (valsK S).getD j false = S.truth.getD (2 * (j + 1)) false := by
        unfold valsK
        rw [List.getD_eq_getElem?_getD, List.getElem?_map, List.getElem?_range hjl]; rfl
      rw [e1, e2]
    · have hd : decide ((j : Int) < (S.vars : Int)) = false := by simp; omega
      simp only [go_sem, hd, Try.results54]
      have e : vs = valsK S := by
        rw [List.take_of_length_le (by omega), List.take_of_length_le (by unfold valsK; simp; omega)] at htk
        exact htk
      exact Wk.mask [0] ⟨rfl, by rw [e]⟩
  rintro fr st ⟨rfl, rfl⟩
  generalize hvs : valsK S = ws
  simp only [go_sem, live_of (g1 ws), objK_of (g1 ws), k1, Try.results54]
  have hne : ∀ s, has S s → I s ≠ σ.length := fun s hs => by have := hS.lt s hs; omega
  have hwl : ws.length = S.vars := by rw [← hvs]; unfold valsK; simp
  have hj : ((kst I S σ ws).set (I .st) (some (.cells [A.rs (I Sl.steps) 2 0 S.steps.length (some 41), dn S.used, dn S.vars,
      A.rs (I Sl.added) 3 0 S.added.length (some 79), A.rs (I Sl.learned) 3 0 S.learned.length (some 79),
      A.rs (I Sl.occ) 1 0 S.occ.length (some 28), A.rs (I Sl.last) 1 0 S.last.length (some 3), dn S.stamp,
      A.rs (I Sl.truth) 1 0 S.truth.length (some 4), A.rs (I Sl.trail) 1 0 S.trail.length (some 3),
      A.rs (I Sl.reasons) 1 0 S.reasons.length (some 3), A.rs (I Sl.levels) 1 0 S.levels.length (some 3),
      A.rs (I Sl.starts) 1 0 S.starts.length (some 3), A.rs (I Sl.marked) 1 0 S.marked.length (some 4),
      A.rs (I Sl.queue) 1 0 S.queue.length (some 3), dn S.left, dn S.first, A.rs (List.length σ) 1 0 S.vars (some 4),
      coreA S, db S.refuted, A.d (D.bool true)])))[σ.length]? = some (some (.cells (boolsA ws))) := by rw [set_other (by omega)]; exact g3 ws
  refine ret_via (freezeAt σ.length (I .st) 1 0 (ws.map D.bool) hj (lies_bools ws) (set_same (g1 ws)) (by omega)) ⟨_, _, Weak.refl _ _ _ _, ?_⟩
  have n1 : ∀ s, has S s → (I s = σ.length) = False := fun s hs => eq_false (hne s hs)
  have fc : A.frz σ.length 1 0 (ws.map D.bool) (coreA S) = coreA S := by unfold coreA; split <;> rfl
  have hcs : frzL σ.length 1 0 (ws.map D.bool) [A.rs (I Sl.steps) 2 0 S.steps.length (some 41), dn S.used, dn S.vars,
      A.rs (I Sl.added) 3 0 S.added.length (some 79), A.rs (I Sl.learned) 3 0 S.learned.length (some 79),
      A.rs (I Sl.occ) 1 0 S.occ.length (some 28), A.rs (I Sl.last) 1 0 S.last.length (some 3), dn S.stamp,
      A.rs (I Sl.truth) 1 0 S.truth.length (some 4), A.rs (I Sl.trail) 1 0 S.trail.length (some 3),
      A.rs (I Sl.reasons) 1 0 S.reasons.length (some 3), A.rs (I Sl.levels) 1 0 S.levels.length (some 3),
      A.rs (I Sl.starts) 1 0 S.starts.length (some 3), A.rs (I Sl.marked) 1 0 S.marked.length (some 4),
      A.rs (I Sl.queue) 1 0 S.queue.length (some 3), dn S.left, dn S.first, A.rs (List.length σ) 1 0 S.vars (some 4),
      coreA S, db S.refuted, A.d (D.bool true)] = ct I S.keep .st := by
    simp only [frzL, A.frz, fc, n1 .steps trivial, n1 .added trivial, n1 .learned trivial, n1 .occ trivial, n1 .last trivial, n1 .truth trivial, n1 .trail trivial, n1 .reasons trivial, n1 .levels trivial, n1 .starts trivial, n1 .marked trivial, n1 .queue trivial, false_and, if_false, List.length_map, hwl, true_and, and_self, if_true]
    rw [← hvs]
    rfl
  rw [hcs]
  refine h _ _ ⟨fun t ht => ?_, fun a b ha hb => hS.inj a b (by cases a <;> exact ha) (by cases b <;> exact hb)⟩ ⟨by simp [kst], rfl, fun _ => .inl rfl, fun k hk hn => ?_⟩
  · have htt : has S t := by cases t <;> exact ht
    by_cases e : t = .st
    · subst e
      rw [List.getElem?_set, if_pos rfl, if_pos (by simp [kst]; omega)]
    · have hn : I .st ≠ I t := hS.ne (Ne.symm e) trivial htt
      rw [set_other hn, set_other (Ne.symm (hne t htt)), set_other hn]
      unfold kst
      rw [set_other hn, List.getElem?_append_left (hS.lt t htt), hS.get t htt]
      cases t <;> first | rfl | exact absurd rfl e
  · have := hn .st trivial
    rw [set_other (Ne.symm this), set_other (by omega), set_other (Ne.symm this)]
    unfold kst
    rw [set_other (Ne.symm this), List.getElem?_append_left hk]
def exs (S : Sv) (ids : List Nat) : Sv := ids.foldl (fun S i => S.examine i) S
theorem exs_snoc (S : Sv) (ids : List Nat) (i : Nat) : exs S (ids ++ [i]) = (exs S ids).examine i := by simp [exs]
theorem ex_parts (S : Sv) (i : Nat) : (S.examine i).added = S.added ∧ (S.examine i).learned = S.learned ∧ (S.examine i).occ = S.occ := by
  unfold Sv.examine; split <;> exact ⟨rfl, rfl, rfl⟩
theorem exs_parts : ∀ (ids : List Nat) (S : Sv), (exs S ids).added = S.added ∧ (exs S ids).learned = S.learned ∧ (exs S ids).occ = S.occ
  | [], _ => ⟨rfl, rfl, rfl⟩
  | i :: ids, S => by
    have h := exs_parts ids (S.examine i)
    have k := ex_parts S i
    exact ⟨h.1.trans k.1, h.2.1.trans k.2.1, h.2.2.trans k.2.2⟩
theorem exs_queue : ∀ (ids : List Nat) (S : Sv), (exs S ids).queue.length ≤ S.queue.length + ids.length
  | [], S => Nat.le_refl _
  | i :: ids, S => by
    have h1 := exs_queue ids (S.examine i)
    have h2 := ex_queue S i
    have e : exs S (i :: ids) = exs (S.examine i) ids := rfl
    rw [e, List.length_cons]; omega
theorem okId_eq {S S' : Sv} (h1 : S'.added = S.added) (h2 : S'.learned = S.learned) (id : Nat) : okId S' id ↔ okId S id := by
  unfold okId clL; rw [h1, h2]
theorem begin_eq (S : Sv) : S.begin' = exs S (List.range S.added.length ++ (List.range S.learned.length).map (cmax + ·)) := by
  unfold Sv.begin' exs
  rw [List.foldl_append, List.foldl_map]
set_option maxHeartbeats 4000000 in
theorem begin_ac (hS : Sol I S σ) (hq : S.queue.length + S.added.length + S.learned.length < 1000000000000) (ha : S.added.length ≤ 40000) (hl : S.learned.length ≤ 100000) (G : Glob) (R : A → St → Prop) (h : ∀ r I' σ', Sol I' S.begin' σ' → Stp Any I S σ I' σ' → R r σ') : AC Try.prog G 45 [.ref (I .st) 0] σ R := by
  rw [begin_eq] at h
  refine ac_enterC' [5] mixed Try.func45 rfl Try.ntmps45 (by simp only [go_sem]) fun hbd => ?_
  simp only [List.length_cons, List.length_nil, Nat.reduceAdd, Nat.reduceSub, List.replicate_succ, List.replicate_zero, List.cons_append, List.nil_append]
  refine aw_cut (fun fr st => fr = [.ref (I .st) 0, .any, .any, .any, .any, .any, .any, .any, .any, .any, .any, .any, .any, .any, .any, .any, .any, .any, .any, .any, .any, .any, .any, .any, .any, .any, .any, .any, .any] ∧ ∃ I', Sol I' (exs S (List.range S.added.length)) st ∧ Stp Any I S σ I' st) ?_ ?_
  · simp only [go_sem, hS.live .st, hS.ob .st, hS.live .added, ct, Try.results45]
    refine aw_loop (fun m fr st => ∃ (j : Nat) (I' : Sl → Nat), j ≤ S.added.length ∧ m = S.added.length - j ∧ fr = [.ref (I .st) 0, .any, .any, .any, .any, .any, .any, .any, dn S.added.length, dn j, .any, .any, .any, .any, .any, .any, .any, .any, .any, .any, .any, .any, .any, .any, .any, .any, .any, .any, .any] ∧ Sol I' (exs S (List.range j)) st ∧ Stp Any I S σ I' st) S.added.length _
      (Wk.mask [0, 8, 9] ⟨0, I, by omega, by omega, rfl, hS, Stp.refl _ _ _ _⟩) ?_
    rintro m fr st ⟨j, I1, hj, hm, rfl, hS1, hT1⟩
    rcases Nat.lt_or_ge j S.added.length with hlt | hge
    · have hd : decide ((j : Int) < (S.added.length : Int)) = true := by simp; omega
      have w2 := wrapS j (by omega)
      have hp := exs_parts (List.range j) S
      have hqj := exs_queue (List.range j) S
      rw [List.length_range] at hqj
      have hok : okId (exs S (List.range j)) j := by
        rw [okId_eq hp.1 hp.2.1]
        have : ¬ cmax ≤ j := by simp only [cmax]; omega
        unfold okId clL clI; rw [if_neg this, if_neg this]; exact hlt
      simp only [go_sem, hd, w2, Try.results45]
      rw [← hT1.st]
      refine ac' (examine_ac hS1 j hok (by omega) (by omega) _ _ fun r I2 σ2 hS2 hT2 => ?_)
      simp only [go_sem, w2, Try.results45]
      refine Wk.mask [0, 8, 9] ⟨S.added.length - (j + 1), by omega, j + 1, I2, by omega, rfl, by rw [hT1.st]; rfl, by rw [List.range_succ, exs_snoc]; exact hS2, hT1.trans (SameOcc.has (by unfold SameOcc; rw [hp.2.2])) hT2.any⟩
    · have hd : decide ((j : Int) < (S.added.length : Int)) = false := by simp; omega
      obtain rfl : j = S.added.length := by omega
      simp only [go_sem, hd, Try.results45]
      exact Wk.mask [0] ⟨rfl, I1, hS1, hT1⟩
  clear hS
  rintro fr st ⟨rfl, I0, hS, hT⟩
  have hp := exs_parts (List.range S.added.length) S
  have hq0 := exs_queue (List.range S.added.length) S
  rw [List.length_range] at hq0
  have hap : ∀ js, exs S (List.range S.added.length ++ js) = exs (exs S (List.range S.added.length)) js := fun js => by unfold exs; rw [List.foldl_append]
  rw [hap] at h
  have hT0 := SameOcc.has (S := S) (S' := exs S (List.range S.added.length)) (by unfold SameOcc; rw [hp.2.2])
  generalize exs S (List.range S.added.length) = S0 at hS hp hq0 h hT0
  rw [← hp.2.1] at h hl hq
  rw [← hT.st]
  simp only [go_sem, hS.live .st, hS.ob .st, hS.live .learned, ct, Try.results45]
  refine aw_loop (fun m fr st => ∃ (j : Nat) (I' : Sl → Nat), j ≤ S0.learned.length ∧ m = S0.learned.length - j ∧ fr = [.ref (I .st) 0, .any, .any, .any, .any, .any, .any, .any, .any, .any, .any, .any, .any, .any, .any, .any, .any, .any, .any, .any, dn S0.learned.length, dn j, .any, .any, .any, .any, .any, .any, .any] ∧ Sol I' (exs S0 ((List.range j).map (cmax + ·))) st ∧ Stp Any I S σ I' st) S0.learned.length _
    (Wk.mask [0, 20, 21] ⟨0, I0, by omega, by omega, by rw [hT.st]; rfl, hS, hT⟩) ?_
  clear hS hT
  rintro m fr st ⟨j, I1, hj, hm, rfl, hS1, hT1⟩
  rcases Nat.lt_or_ge j S0.learned.length with hlt | hge
  · have hd : decide ((j : Int) < (S0.learned.length : Int)) = true := by simp; omega
    have w2 := wrapS j (by omega)
    have w3 : IntKind.i64.wrap (40000 + (j : Int)) = ((cmax + j : Nat) : Int) := by rw [wrap64_id _ (by omega) (by omega)]; rfl
    have hp1 := exs_parts ((List.range j).map (cmax + ·)) S0
    have hqj := exs_queue ((List.range j).map (cmax + ·)) S0
    rw [List.length_map, List.length_range] at hqj
    have hok : okId (exs S0 ((List.range j).map (cmax + ·))) (cmax + j) := by
      rw [okId_eq hp1.1 hp1.2.1]
      have : cmax ≤ cmax + j := Nat.le_add_right _ _
      unfold okId clL clI; rw [if_pos this, if_pos this, Nat.add_sub_cancel_left]; exact hlt
    simp only [go_sem, hd, w2, w3, Try.results45]
    rw [← hT1.st]
    refine ac' (examine_ac hS1 (cmax + j) hok (by simp only [cmax]; omega) (by omega) _ _ fun r I2 σ2 hS2 hT2 => ?_)
    simp only [go_sem, w2, Try.results45]
    refine Wk.mask [0, 20, 21] ⟨S0.learned.length - (j + 1), by omega, j + 1, I2, by omega, rfl, by rw [hT1.st]; rfl, by rw [List.range_succ, List.map_append]; exact (exs_snoc _ _ _) ▸ hS2, hT1.trans (fun s => (hT0 s).trans (SameOcc.has (by unfold SameOcc; rw [hp1.2.2]) s)) hT2.any⟩
  · have hd : decide ((j : Int) < (S0.learned.length : Int)) = false := by simp; omega
    obtain rfl : j = S0.learned.length := by omega
    simp only [go_sem, hd, Try.results45]
    exact ⟨_, _, Weak.refl _ _ _ _, h _ _ _ hS1 hT1⟩
theorem decide_ac (hS : Sol I S σ) (hs : Sh S) (l : Int) (hl : LitV S.vars l) (B : Nat) (hcb : Cb S B) (hB : B ≤ 1000000000000000) (ho : OccOk S l) (ho' : OccOk S (-l)) (htr : S.trail.length ≤ 1000000) (hst : S.starts.length ≤ 1000000) (hq : S.queue.length + (S.occ.getD (code (-l)) []).length < 1000000000000) (hleft : S.left ≤ 1000000000)
    (G : Glob) (R : A → St → Prop) (h : ∀ I' σ', Sol I' (S.decide' l).1 σ' → Stp Any I S σ I' σ' → R (db (S.decide' l).2) σ') : AC Try.prog G 53 [.ref (I .st) 0, di l] σ R := by
  refine ac_enterC' [2] mixed Try.func53 rfl Try.ntmps53 (by simp only [go_sem]) fun hbd => ?_
  simp only [List.length_cons, List.length_nil, Nat.reduceAdd, Nat.reduceSub, List.replicate_succ, List.replicate_zero, List.cons_append, List.nil_append]
  simp only [go_sem, Try.results53]
  refine aw_cut (fun fr st => fr = [.ref (I .st) 0, di l, .any, .any, .any, .any, .any, .any, .any, .any, .any, .any, .any, .any, .any, .any, .any, .any, .any, .any, .any, .any] ∧ ∃ I', Sol I' { S with starts := S.starts ++ [S.trail.length] } st ∧ Stp Any I S σ I' st) ?_ ?_
  · have hS2 := hS.app [some (.cells [dn S.trail.length])]
    have g := hS2.st_less .starts trivial (by decide)
    have q0 : decide (I .starts < σ.length) = true := decide_eq_true (hS.lt .starts)
    refine aw_plan (.tk 15 0 <| .done) (by kernel_rfl) ?_
    simp only [go_sem, hS.live .st, hS.ob .st, hS.live .trail, hS2.live .starts, hS2.ob .starts, fun l => live_of (g l), fun l k => objK_of (k := k) (g l), ct, natsA_len, Nat.mul_one, Try.results53]
    refine ⟨⟨by simp only [maxLen]; omega, by omega⟩, live_new (by simp), Wk.mask [0, 1] ⟨rfl, upI I .starts (σ.length + 1), hS2.grow .starts trivial (by decide) (σ.length + 1) (by simp) (fun t => by cases t <;> exact Iff.rfl) (natsA_snoc _ _).symm ?_ fun t h1 h2 => ?_,
      Stp.pre (stp_grow hS2 Any .starts trivial (by decide) trivial (σ.length + 1) (by simp))⟩⟩
    · simp only [ct, List.length_append, List.length_cons, List.length_nil, Nat.zero_add]; rfl
    · cases t <;> first | rfl | exact absurd rfl h1 | exact absurd rfl h2 | simp [ct, innA, upI]
  rintro fr st ⟨rfl, I1, hS1, hT1⟩
  rw [← hT1.st]
  simp only [go_sem, Try.results53]
  refine ac' (assign_ac hS1 ⟨hs.1, hs.2, hs.3, hs.4, hs.5, hs.6, hs.7⟩ l hl (-1) B hcb hB ho ho' htr hq hleft _ _ fun I2 σ2 hS2 hT2 => ?_)
  simp only [go_sem, Try.results53]
  exact ⟨_, _, Weak.refl _ _ _ _, h _ _ hS2 (hT1.trans (fun s => by cases s <;> exact Iff.rfl) hT2)⟩
end Go.Proofs.Ytnanofipjiclfaa
end PartT11
