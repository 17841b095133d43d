import Derived.Test.YtfoblkeefpaceaaX75

section PartK13
/- Statements: calls; compare-and-swap. -/
set_option linter.unusedSimpArgs false
set_option linter.unusedVariables false
set_option maxRecDepth 100000
namespace Go.Proofs.Ytfoblkeefpaceaa
open Go Go.Ab

section
variable {X : Kx} {G : Glob} {W : List Dg} {σ0 : St}
theorem args_step (Y : Sx) {ps : List Vr} {e : Nd} {j : Nat} (h : j < e.kids.length) : argsM Y ((ps.drop j).map Vr.w) (e.kids.drop j) = freeM Y (e.kid j) (if j < ps.length then (ps.getD j vr0).w else 0) ++ argsM Y ((ps.drop (j + 1)).map Vr.w) (e.kids.drop (j + 1)) := by
  rw [drop_getD Nd.none h]
  rcases Nat.lt_or_ge j ps.length with h1 | h1
  · rw [drop_getD vr0 h1, if_pos h1]; rfl
  · rw [List.drop_of_length_le h1, List.drop_of_length_le (l := ps) (by omega), if_neg (by omega)]; rfl
theorem args_none (Y : Sx) : ∀ (ws : List Int), argsM Y ws [] = []
  | [] => rfl
  | _ :: _ => rfl
theorem sized_w {l : List Vr} (h : sizedM l = true) {j : Nat} (hj : j < l.length) : ∃ w : Nat, (l.getD j vr0).w = w ∧ w ≤ 8 := by
  have := sized_mem h hj
  exact ⟨(l.getD j vr0).w.toNat, by omega, by omega⟩
theorem procOf_lt {S : Sy} {m : Int} {s : Str} {i : Nat} (h : procOfM S m s = some i) : i < S.procs.length := by
  unfold procOfM at h
  split at h
  · rename_i j hj
    injection h with h; subst h
    split at hj
    · exact findIdx_lt hj
    · cases hj
  · split at h
    · exact findIdx_lt h
    · cases h
set_option maxHeartbeats 8000000 in
theorem call_ac {e : Nd} (hok : e.Ok) (hn : FitB [] e) (hm : inMods X.S X.m = true) : HandAt X G W σ0 84 e (callM X.sx e) := by
  intro ds ib il σ hC hW R h
  have hre : reachBytes < 9223372036854775000 := by decide
  have hkl := hok.len
  have hc := hC.rd.c
  unfold chk at hc
  have hsy : syD X.S = .agg [.sl 22 (X.S.mods.map moD), vrsD X.S.vars, .sl 12 (X.S.locks.map lkD), .sl 16 (X.S.procs.map prD), .sl 5 (X.S.threads.map thD)] := rfl
  rw [Nd.d_eq]
  refine ac_enterC' [7] mixed Try.func84 rfl Try.ntmps84 (by simp only [go_sem]) fun hbd => ?_
  simp only [List.length_cons, List.length_nil, Nat.reduceAdd, Nat.reduceSub, List.replicate_succ, List.replicate_zero, List.cons_append, List.nil_append]
  simp only [go_sem, Try.results84]
  refine aw_plan (.tk 10 0 <| .pure 10 <| .tk 5 11 <| .done) (by kernel_rfl) ?_
  simp only [go_sem, live_old hc, objK_old hc, Try.results84]
  obtain ⟨a, b, hab⟩ : ∃ a b, prR (procOfM X.S X.m e.name) = .tup [di a, di b] := by cases procOfM X.S X.m e.name <;> exact ⟨_, _, rfl⟩
  refine exP (.tup [di a, di b]) ⟨fun σ' => ?_, ?_⟩
  · simp only [go_sem, Try.results84]
    rw [← hsy, ← hab]
    exact ac' (procof_ac X.S hC.rd.ok X.m hm e.name hok.nm _ _ _ ⟨rfl, rfl⟩)
  simp only [go_sem, Try.results84]
  refine aw_cut (fun fr st => ∃ ps ib' il' m1, sizedM ps = true ∧ ps.length ≤ reachBytes ∧ m1 ++ argsM X.sx (ps.map Vr.w) e.kids = callM X.sx e ∧ Ck X G W σ0 [] (ds ++ m1) ib' il' st ∧ Stq X ib il (σ ++ [ncs e]) ib' il' st ∧ fr = [.ref X.ic 0, .any, .any, .ref σ.length 0, .d (.sl 7 (ps.map vrD)), .any, .any, .any, .any, .any, .any, .any, .any, .any, .any, .any, .any, .any, .any, .any, .any, .any, .any, .any, .any, .any, .any, .any, .any, .any, .any, .any, .any, .any, .any, .any, .any, .any, .any, .any, .any, .any, .any, .any, .any, .any, .any, .any, .any, .any, .any, .any, .any, .any, .any, .any, .any, .any, .any, .any, .any, .any, .any, .any, .any, .any, .any, .any, .any, .any, .any, .any, .any]) ?_ ?_
  · have hcm : callM X.sx e = match prmM X.S X.m e.name with | none => ⟨40, e.pos⟩ :: argsM X.sx [] e.kids | some ws => rep (e.kids.length != ws.length) 43 e.pos ++ argsM X.sx ws e.kids := rfl
    unfold prmM at hcm
    cases hp : procOfM X.S X.m e.name with
    | none =>
      rw [hp] at hcm hab
      simp only [prR, A.tup.injEq, List.cons.injEq, A.d.injEq, D.int.injEq, true_and, and_true] at hab
      obtain ⟨rfl, rfl⟩ := hab
      have hW1 : ds ++ [⟨40, e.pos⟩] <+: W := by
        rw [hcm] at hW
        exact pre1 (b := [⟨40, e.pos⟩]) (c := argsM X.sx [] e.kids) hW
      simp only [prR, go_sem, show ((40 : Int) != 0) = true from rfl, Try.results84]
      refine aw_plan (.tk 7 0 <| .done) (by kernel_rfl) ?_
      simp only [go_sem, live_old hc, objK_old hc, Try.results84]
      refine ac' (report_ac (hC.app _) 40 e.pos hW1 _ fun r il2 σ2 q1 q2 => ?_)
      simp only [go_sem, Try.results84]
      refine Wk.pre [0, 3, 4] ?_
      simp only [go_sem]
      refine Wk.nils (fr' := [.ref X.ic 0, .any, .any, .ref σ.length 0, .d (.sl 7 (([] : List Vr).map vrD)), .any, .any, .any, .any, .any, .any, .any, .any, .any, .any, .any, .any, .any, .any, .any, .any, .any, .any, .any, .any, .any, .any, .any, .any, .any, .any, .any, .any, .any, .any, .any, .any, .any, .any, .any, .any, .any, .any, .any, .any, .any, .any, .any, .any, .any, .any, .any, .any, .any, .any, .any, .any, .any, .any, .any, .any, .any, .any, .any, .any, .any, .any, .any, .any, .any, .any, .any, .any]) ?_ ?_
      · repeat' first | exact NilAL.nil | apply NilAL.cons | exact NilA.refl _ | exact NilA.d (NilD.nil _)
      · exact Wk.mask [0, 3, 4] ⟨[], ib, il2, [⟨40, e.pos⟩], rfl, by decide, by rw [hcm]; rfl, q1, q2, rfl⟩
    | some i =>
      rw [hp] at hcm hab
      simp only [prR, A.tup.injEq, List.cons.injEq, A.d.injEq, D.int.injEq, true_and, and_true] at hab
      obtain ⟨rfl, rfl⟩ := hab
      have hlt := procOf_lt hp
      have hq := hC.rd.ok.pr _ (getD_mem pr0 hlt)
      have hqe : X.S.procs[i]? = some (X.S.procs.getD i pr0) := by rw [List.getD_eq_getElem?_getD, List.getElem?_eq_getElem hlt]; rfl
      have e1 := pr_d hlt
      have hqs : sizedM (X.S.procs.getD i pr0).params = true := by
        have hu := hC.rd.us
        unfold usableM at hu
        simp only [Bool.and_eq_true] at hu
        have := List.all_eq_true.1 hu.1.2 _ (getD_mem pr0 hlt)
        simp only [Bool.and_eq_true] at this
        exact this.1.2
      have hlp := hC.rd.ok.procs
      dsimp only at hcm
      rw [hqe] at hcm
      generalize X.S.procs.getD i pr0 = q at e1 hq hqs hcm
      simp only [Option.map_some, Option.getD_some] at hcm
      simp only [prD, vrsD, isD, Nd.cs, List.cons_append, List.nil_append] at e1
      have hW1 : ds ++ rep (e.kids.length != (q.params.map Vr.w).length) 43 e.pos <+: W := by rw [hcm] at hW; exact pre1 hW
      simp only [prR, go_sem, show ((0 : Int) != 0) = false from rfl, live_old hc, objK_old hc, List.length_map, e1, Int.toNat_natCast, Try.results84]
      have hbe : ((e.kids.length : Int) != (q.params.length : Int)) = (e.kids.length != (q.params.map Vr.w).length) := by
        rw [List.length_map, Bool.eq_iff_iff]; simp; omega
      rw [hbe, ← Nd.d_eq e]
      refine ⟨⟨by omega, by omega⟩, ac' (check_ac (hC.app _) e _ 43 hW1 _ fun r ib2 il2 σ2 q1 q2 => ?_)⟩
      simp only [go_sem, e1, List.length_map, Try.results84]
      exact Wk.mask [0, 3, 4] ⟨q.params, ib2, il2, _, hqs, hq.params, hcm.symm, q1, q2, rfl⟩
  · rintro fr st ⟨ps, ib', il', m1, hps, hpl, hM, hCk, hst, rfl⟩
    have hloc := Stq.tree hC hst
    simp only [go_sem, live_of hloc, objK_of hloc, List.length_map, Try.results84]
    refine aw_loop (fun m fr st => ∃ j ib' il' dn0, j ≤ e.kids.length ∧ m = e.kids.length - j ∧ dn0 ++ argsM X.sx ((ps.drop j).map Vr.w) (e.kids.drop j) = callM X.sx e ∧ Ck X G W σ0 [] (ds ++ dn0) ib' il' st ∧ Stq X ib il (σ ++ [ncs e]) ib' il' st ∧ fr = [.ref X.ic 0, .any, .any, .any, .d (.sl 7 (ps.map vrD)), .any, .any, .any, .any, .any, .any, .any, .any, .any, .any, .any, .any, .any, .any, .any, .any, .any, .any, .any, .any, .any, .any, .any, .any, .any, .any, .any, .any, .any, .any, .any, .any, .any, .any, .any, .any, .any, .any, .any, .any, .any, .any, .any, .any, .any, .any, .any, .d (.sl 9 (e.kids.map Nd.d)), dn e.kids.length, dn j, .any, .any, .any, .any, .any, .any, .any, .any, .any, .any, .any, .any, .any, .any, .any, .any, .any, .any]) e.kids.length _ ?_ ?_
    · exact Wk.mask [0, 4, 52, 53, 54] ⟨0, ib', il', m1, by omega, by omega, hM, hCk, hst, rfl⟩
    clear hloc hst hCk
    rintro m fr st ⟨j, ib', il', dn0, hj, hm, hM, hCk, hst, rfl⟩
    rcases Nat.lt_or_ge j e.kids.length with hlt | hge
    · have hd : decide ((j : Int) < (e.kids.length : Int)) = true := by simp; omega
      have e1 := kid_d hlt
      have w1 := wrapS j (by omega)
      rw [args_step X.sx hlt] at hM
      have hW2 : ds ++ dn0 ++ (freeM X.sx (e.kid j) (if j < ps.length then (ps.getD j vr0).w else 0) ++ argsM X.sx ((ps.drop (j + 1)).map Vr.w) (e.kids.drop (j + 1))) <+: W := by rw [List.append_assoc, hM]; exact hW
      have hend : ∀ (w : Nat), w ≤ 8 → (if j < ps.length then (ps.getD j vr0).w else 0) = (w : Int) → ∀ R' : A → St → Prop, (∀ r ib2 il2 σ2, Ck X G W σ0 [] (ds ++ (dn0 ++ freeM X.sx (e.kid j) (w : Int))) ib2 il2 σ2 → Stq X ib' il' (st ++ [ncs (e.kid j)]) ib2 il2 σ2 → R' r σ2) → AC Try.prog G 88 [.ref X.ic 0, .d (e.kid j).d, dn w] (st ++ [ncs (e.kid j)]) R' := fun w hw8 hw R' hR' => by
        rw [hw] at hW2
        refine free_ac (hok.kid j) (expr_ac _ (hok.kid j)) w hw8 (hCk.app _) (hn.kid j) (pre1 hW2) R' fun r ib2 il2 σ2 q1 q2 => hR' _ _ _ _ (by rw [← List.append_assoc]; exact q1) q2
      by_cases hjp : j < ps.length
      · have hd2 : decide ((j : Int) < (ps.length : Int)) = true := by simp; omega
        have e2 := vr_d hjp
        obtain ⟨w, hw, hw8⟩ := sized_w hps hjp
        have hif : (if j < ps.length then (ps.getD j vr0).w else 0) = (w : Int) := by rw [if_pos hjp, hw]
        rw [hw] at e2
        simp only [go_sem, hd, hd2, e1, e2, Nd.cs, w1, List.length_map, Int.toNat_natCast, Try.results84]
        rw [← Nd.d_eq (e.kid j)]
        refine ⟨⟨by omega, by omega⟩, ⟨by omega, by omega⟩, ac' (hend w hw8 hif _ fun r ib2 il2 σ2 q1 q2 => ?_)⟩
        simp only [go_sem, w1, Try.results84]
        refine Wk.mask [0, 4, 52, 53, 54] ⟨e.kids.length - (j + 1), by omega, j + 1, ib2, il2, _, hlt, rfl, ?_, q1, hst.trans (Stq.app q2), rfl⟩
        rw [hif] at hM
        rw [List.append_assoc]; exact hM
      · have hd2 : decide ((j : Int) < (ps.length : Int)) = false := by simp; omega
        have hif : (if j < ps.length then (ps.getD j vr0).w else 0) = ((0 : Nat) : Int) := by rw [if_neg hjp]; rfl
        simp only [go_sem, hd, hd2, e1, Nd.cs, w1, List.length_map, Int.toNat_natCast, Try.results84]
        rw [← Nd.d_eq (e.kid j)]
        refine ⟨⟨by omega, by omega⟩, ac' (hend 0 (by omega) hif _ fun r ib2 il2 σ2 q1 q2 => ?_)⟩
        simp only [go_sem, w1, Try.results84]
        refine Wk.mask [0, 4, 52, 53, 54] ⟨e.kids.length - (j + 1), by omega, j + 1, ib2, il2, _, hlt, rfl, ?_, q1, hst.trans (Stq.app q2), rfl⟩
        rw [hif] at hM
        rw [List.append_assoc]; exact hM
    · have hd : decide ((j : Int) < (e.kids.length : Int)) = false := by simp; omega
      rw [List.drop_of_length_le hge, args_none, List.append_nil] at hM
      rw [hM] at hCk
      simp only [go_sem, hd, Try.results84]
      exact ⟨_, _, Weak.refl _ _ _ _, h _ _ _ _ hCk (Stq.app hst)⟩
set_option maxHeartbeats 16000000 in
theorem cas_ac {e : Nd} (hok : e.Ok) (hn : FitB [] e) : HandAt X G W σ0 81 e (casM X.sx e) := by
  intro ds ib il σ hC hW R h
  have hkl := hok.len
  have hc := hC.rd.c
  unfold chk at hc
  obtain ⟨w, hw, hw8⟩ : ∃ w : Nat, (if (e.kid 0).kind = 2 then ownS X.sx (e.kid 0) else 0) = (w : Int) ∧ w ≤ 8 := by
    split
    · obtain ⟨w, h1, h2⟩ := own1_nat (X := X) (B := []) hC.rd.us (e.kid 0); exact ⟨w, h1, h2⟩
    · exact ⟨0, rfl, by omega⟩
  have hcm : casM X.sx e = (if (e.kid 0).kind ≠ 2 ∨ privM (den X.L [] (e.kid 0).name) = true then [⟨44, (e.kid 0).pos⟩] else eM X.sx (e.kid 0) w) ++
      (freeM X.sx (e.kid 1) w ++ (freeM X.sx (e.kid 2) w ++ ((if (e.kid 3).kind ≠ 2 then [⟨44, (e.kid 3).pos⟩] else eM X.sx (e.kid 3) 1) ++ assignsM X.sx (e.kids.drop 4)))) := by
    unfold casM; dsimp only; rw [hw]; rfl
  generalize hm1 : (if (e.kid 0).kind ≠ 2 ∨ privM (den X.L [] (e.kid 0).name) = true then [(⟨44, (e.kid 0).pos⟩ : Dg)] else eM X.sx (e.kid 0) w) = m1 at hcm
  generalize hm3 : (if (e.kid 3).kind ≠ 2 then [(⟨44, (e.kid 3).pos⟩ : Dg)] else eM X.sx (e.kid 3) 1) = m3 at hcm
  rw [hcm] at hW h
  have W1 := pre1 hW
  have W2 := pre2 hW
  have W3 := pre1 W2
  have W4 := pre2 W2
  have W5 := pre1 W4
  have W6 := pre2 W4
  have W7 := pre1 W6
  have W8 := pre2 W6
  rw [Nd.d_eq]
  refine ac_enterC' [4, 7, 9, 13] mixed Try.func81 rfl Try.ntmps81 (by simp only [go_sem]) fun hbd => ?_
  simp only [List.length_cons, List.length_nil, Nat.reduceAdd, Nat.reduceSub, List.replicate_succ, List.replicate_zero, List.cons_append, List.nil_append]
  simp only [go_sem, Try.results81]
  rw [← Nd.d_eq e]
  refine ac' (kid_ac e 0 (by omega) hkl _ _ _ ?_)
  rw [Nd.d_eq (e.kid 0)]
  simp only [go_sem, Try.results81]
  refine aw_cut (fun fr st => fr = [.ref X.ic 0, .any, .any, .ref σ.length 0, .ref (σ.length + 1) 0, dn w, .any, .any, .any, .any, .any, .any, .any, .any, .any, .any, .any, .any, .any, .any, .any, .any, .any, .any, .any, .any, .any, .any, .any, .any, .any, .any, .any, .any, .any, .any, .any, .any, .any, .any, .any, .any, .any, .any, .any, .any, .any, .any, .any, .any, .any, .any, .any, .any, .any, .any, .any, .any, .any, .any, .any, .any, .any, .any] ∧ st = σ ++ [ncs e, ncs (e.kid 0)]) ?_ ?_
  · by_cases k2 : (e.kid 0).kind = 2
    · have c2 := beq_t k2
      rw [if_pos k2] at hw
      simp only [go_sem, c2, Try.results81]
      rw [← Nd.d_eq (e.kid 0)]
      refine ac' (own_ac X [] ib _ (hok.kid 0) _ (hC.rd.app _) _ _ ?_)
      have hw' : ownM (den X.L []) (e.kid 0) = w := hw
      rw [hw']
      simp only [go_sem, Try.results81]
      exact Wk.mask [0, 3, 4, 5] ⟨rfl, rfl⟩
    · have c2 := beq_f k2
      rw [if_neg k2] at hw
      obtain rfl : w = 0 := by omega
      simp only [go_sem, c2, Try.results81]
      exact Wk.mask [0, 3, 4, 5] ⟨rfl, rfl⟩
  rintro fr st ⟨rfl, rfl⟩
  refine aw_cut (fun fr st => ∃ ib' il', Ck X G W σ0 [] (ds ++ m1) ib' il' st ∧ Stq X ib il (σ ++ [ncs e, ncs (e.kid 0)]) ib' il' st ∧ fr = [.ref X.ic 0, .any, .any, .ref σ.length 0, .any, dn w, .any, .any, .any, .any, .any, .any, .any, .any, .any, .any, .any, .any, .any, .any, .any, .any, .any, .any, .any, .any, .any, .any, .any, .any, .any, .any, .any, .any, .any, .any, .any, .any, .any, .any, .any, .any, .any, .any, .any, .any, .any, .any, .any, .any, .any, .any, .any, .any, .any, .any, .any, .any, .any, .any, .any, .any, .any, .any]) ?_ ?_
  · by_cases k2 : (e.kid 0).kind = 2
    · have c2 : ((e.kid 0).kind != 2) = false := by simpa using k2
      have hpm : privM (den X.L [] (e.kid 0).name) = ((den X.L [] (e.kid 0).name).kind == 2 || (den X.L [] (e.kid 0).name).kind == 3) := by
        cases den X.L [] (e.kid 0).name <;> rfl
      rw [hpm] at hm1
      simp only [go_sem, c2, Try.results81]
      refine ex' (mnD (den X.L [] (e.kid 0).name)) ⟨fun q => ?_, ?_⟩
      · simp only [go_sem, Try.results81]
        exact ac' ((hC.rd.app _).den _ (hok.kid 0).nm _ _ ⟨rfl, rfl⟩)
      generalize den X.L [] (e.kid 0).name = m at hm1
      simp only [go_sem, Try.results81]
      refine ex' (.bool (m.kind == 2 || m.kind == 3)) ⟨fun q => ?_, ?_⟩
      · simp only [go_sem, Try.results81]
        exact ac' (priv_ac m _ _ _ ⟨rfl, rfl⟩)
      simp only [go_sem, Try.results81]
      refine ⟨fun c => ?_, fun c => ?_⟩
      · rw [if_pos (.inr c)] at hm1
        subst hm1
        refine aw_plan (.tk 7 0 <| .done) (by kernel_rfl) ?_
        simp only [go_sem, live_old hc, objK_old hc, Try.results81]
        refine ac' (report_ac (hC.app _) 44 (e.kid 0).pos W1 _ fun r il2 σ2 q1 q2 => ?_)
        simp only [go_sem, Try.results81]
        exact Wk.mask [0, 3, 5] ⟨_, _, q1, q2, rfl⟩
      · rw [if_neg (by rintro (h0 | h0); exact h0 k2; rw [c] at h0; cases h0)] at hm1
        subst hm1
        rw [← Nd.d_eq (e.kid 0)]
        refine ac' (expr_ac (e.kid 0) (hok.kid 0) [] _ _ _ _ w hw8 (hC.app _) (hn.kid 0) W1 _ fun r ib2 il2 σ2 q1 q2 => ?_)
        simp only [go_sem, Try.results81]
        exact Wk.mask [0, 3, 5] ⟨_, _, q1, q2, rfl⟩
    · have c2 : ((e.kid 0).kind != 2) = true := by simpa using k2
      rw [if_pos (.inl k2)] at hm1
      subst hm1
      simp only [go_sem, c2, Try.results81]
      refine ex' (mnD Mn.none) ⟨fun q => Bool.noConfusion q, ?_⟩
      simp only [go_sem, Try.results81]
      refine ex' (.bool false) ⟨fun q => Bool.noConfusion q, ?_⟩
      simp only [go_sem, Try.results81]
      refine aw_plan (.tk 7 0 <| .done) (by kernel_rfl) ?_
      simp only [go_sem, live_old hc, objK_old hc, Try.results81]
      refine ac' (report_ac (hC.app _) 44 (e.kid 0).pos W1 _ fun r il2 σ2 q1 q2 => ?_)
      simp only [go_sem, Try.results81]
      exact Wk.mask [0, 3, 5] ⟨_, _, q1, q2, rfl⟩
  rintro fr st ⟨ib', il', hCk, hst, rfl⟩
  have hloc := Stq.own hC hst (i := 0) rfl
  rw [Nat.add_zero] at hloc
  simp only [go_sem, live_of hloc, objK_of hloc, Try.results81]
  rw [← Nd.d_eq e]
  refine ac' (kid_ac e 1 (by omega) hkl _ _ _ ?_)
  simp only [go_sem, live_of hloc, objK_of hloc, Try.results81]
  refine ac' (free_ac (hok.kid 1) (expr_ac _ (hok.kid 1)) w hw8 hCk (hn.kid 1) W3 _ fun r ib2 il2 σ2 q1 q2 => ?_)
  have hst2 := hst.trans q2
  have hloc2 := Stq.own hC hst2 (i := 0) rfl
  rw [Nat.add_zero] at hloc2
  clear hloc hst hCk q2
  simp only [go_sem, Try.results81]
  refine aw_cut (fun fr st => ∃ ib' il', Ck X G W σ0 [] (ds ++ m1 ++ freeM X.sx (e.kid 1) w ++ freeM X.sx (e.kid 2) w) ib' il' st ∧ Stq X ib il (σ ++ [ncs e, ncs (e.kid 0)]) ib' il' st ∧ fr = [.ref X.ic 0, .any, .any, .ref σ.length 0, .any, .any, .any, .any, .any, .any, .any, .any, .any, .any, .any, .any, .any, .any, .any, .any, .any, .any, .any, .any, .any, .any, .any, .any, .any, .any, .any, .any, .any, .any, .any, .any, .any, .any, .any, .any, .any, .any, .any, .any, .any, .any, .any, .any, .any, .any, .any, .any, .any, .any, .any, .any, .any, .any, .any, .any, .any, .any, .any, .any]) ?_ ?_
  · simp only [go_sem, live_of hloc2, objK_of hloc2, Try.results81]
    rw [← Nd.d_eq e]
    refine ac' (kid_ac e 2 (by omega) hkl _ _ _ ?_)
    simp only [go_sem, live_of hloc2, objK_of hloc2, Try.results81]
    refine ac' (free_ac (hok.kid 2) (expr_ac _ (hok.kid 2)) w hw8 q1 (hn.kid 2) W5 _ fun r ib3 il3 σ3 q3 q4 => ?_)
    simp only [go_sem, Try.results81]
    have q5 : Ck X G W σ0 [] (ds ++ m1 ++ freeM X.sx (e.kid 1) w ++ freeM X.sx (e.kid 2) w) ib3 il3 σ3 := q3
    simp only [List.append_assoc] at q5
    exact Wk.mask [0, 3] ⟨_, _, q5, hst2.trans q4, rfl⟩
  clear hloc2 hst2 q1
  rintro fr st ⟨ib', il', hCk, hst, rfl⟩
  have hloc := Stq.own hC hst (i := 0) rfl
  rw [Nat.add_zero] at hloc
  have hc2 := hCk.rd.c
  unfold chk at hc2
  simp only [go_sem, Try.results81]
  refine aw_cut (fun fr st => ∃ ib' il', Ck X G W σ0 [] (ds ++ m1 ++ freeM X.sx (e.kid 1) w ++ freeM X.sx (e.kid 2) w ++ m3) ib' il' st ∧ Stq X ib il (σ ++ [ncs e, ncs (e.kid 0)]) ib' il' st ∧ fr = [.ref X.ic 0, .any, .any, .ref σ.length 0, .any, .any, .any, .any, .any, .any, .any, .any, .any, .any, .any, .any, .any, .any, .any, .any, .any, .any, .any, .any, .any, .any, .any, .any, .any, .any, .any, .any, .any, .any, .any, .any, .any, .any, .any, .any, .any, .any, .any, .any, .any, .any, .any, .any, .any, .any, .any, .any, .any, .any, .any, .any, .any, .any, .any, .any, .any, .any, .any, .any]) ?_ ?_
  · simp only [go_sem, live_of hloc, objK_of hloc, Try.results81]
    rw [← Nd.d_eq e]
    refine ac' (kid_ac e 3 (by omega) hkl _ _ _ ?_)
    rw [Nd.d_eq (e.kid 3)]
    by_cases k3 : (e.kid 3).kind = 2
    · have c3 : ((e.kid 3).kind != 2) = false := by simpa using k3
      rw [if_neg (by omega)] at hm3
      subst hm3
      simp only [go_sem, c3, Try.results81]
      rw [← Nd.d_eq (e.kid 3)]
      refine ac' (expr_ac (e.kid 3) (hok.kid 3) [] _ _ _ _ 1 (by omega) (hCk.app _) (hn.kid 3) W7 _ fun r ib2 il2 σ2 q1 q2 => ?_)
      simp only [go_sem, Try.results81]
      replace q1 : Ck X G W σ0 [] (ds ++ m1 ++ freeM X.sx (e.kid 1) w ++ freeM X.sx (e.kid 2) w ++ eM X.sx (e.kid 3) 1) ib2 il2 σ2 := q1
      simp only [List.append_assoc] at q1
      exact Wk.mask [0, 3] ⟨_, _, q1, hst.trans (Stq.app q2), rfl⟩
    · have c3 : ((e.kid 3).kind != 2) = true := by simpa using k3
      rw [if_pos k3] at hm3
      subst hm3
      simp only [go_sem, c3, Try.results81]
      refine aw_plan (.tk 7 0 <| .done) (by kernel_rfl) ?_
      simp only [go_sem, live_old hc2, objK_old hc2, Try.results81]
      refine ac' (report_ac (hCk.app _) 44 (e.kid 3).pos W7 _ fun r il2 σ2 q1 q2 => ?_)
      simp only [go_sem, Try.results81]
      simp only [List.append_assoc] at q1
      exact Wk.mask [0, 3] ⟨_, _, q1, hst.trans (Stq.app q2), rfl⟩
  clear hloc hst hCk hc2
  rintro fr st ⟨ib', il', hCk, hst, rfl⟩
  have hloc := Stq.own hC hst (i := 0) rfl
  rw [Nat.add_zero] at hloc
  simp only [go_sem, live_of hloc, objK_of hloc, Try.results81]
  rw [← Nd.d_eq e]
  refine ac' (assigns_ac hok hn 4 (by omega) hCk W8 _ fun r ib2 il2 σ2 q1 q2 => ?_)
  refine ⟨_, _, Weak.refl _ _ _ _, h _ _ _ _ ?_ (Stq.app (hst.trans q2))⟩
  simpa only [List.append_assoc] using q1
end
end Go.Proofs.Ytfoblkeefpaceaa
end PartK13

section PartK14
/- Statements with statements; the table of checks. -/
set_option linter.unusedSimpArgs false
set_option linter.unusedVariables false
set_option maxRecDepth 100000
namespace Go.Proofs.Ytfoblkeefpaceaa
open Go Go.Ab

def fnA (f : Nat) : A := .fn (.func f) [] []
/-- The table of checks. -/
def dispM : List (D × A) := [(iD 34, fnA 77), (iD 20, fnA 78), (iD 29, fnA 78), (iD 21, fnA 79), (iD 22, fnA 80), (iD 23, fnA 81), (iD 31, fnA 82), (iD 32, fnA 83), (iD 33, fnA 84), (iD 24, fnA 85), (iD 25, fnA 85), (iD 27, fnA 86), (iD 28, fnA 86), (iD 26, fnA 87), (iD 30, fnA 87), (iD 35, fnA 87), (iD 63, fnA 87)]
def handF (k : Int) : Option Nat :=
  if k = 34 then some 77 else if k = 20 then some 78 else if k = 29 then some 78 else if k = 21 then some 79 else if k = 22 then some 80 else if k = 23 then some 81 else if k = 31 then some 82 else if k = 32 then some 83
  else if k = 33 then some 84 else if k = 24 then some 85 else if k = 25 then some 85 else if k = 27 then some 86 else if k = 28 then some 86 else if k = 26 then some 87 else if k = 30 then some 87 else if k = 35 then some 87 else if k = 63 then some 87 else none
theorem find_cons (k c : Int) (v : A) (es : List (D × A)) : findD (iD k) ((iD c, v) :: es) = if k = c then some (some v) else findD (iD k) es := by
  have hk : keyD (iD k) (iD c) = some (k == c) := by simp [keyD]
  show (match keyD (iD k) (iD c) with | some true => some (some v) | some false => findD (iD k) es | none => none) = _
  rw [hk]
  by_cases h : k = c
  · simp [h]
  · have : (k == c) = false := by simpa using h
    simp [h, this]
theorem find_disp (k : Int) : findD (iD k) dispM = some ((handF k).map fnA) := by
  have h0 : findD (iD k) [] = some none := rfl
  simp only [dispM, find_cons, h0]
  unfold handF
  by_cases h34 : k = 34
  · simp only [h34, if_true, Int.reduceEq, if_false]; rfl
  by_cases h20 : k = 20
  · simp only [h20, if_true, Int.reduceEq, if_false]; rfl
  by_cases h29 : k = 29
  · simp only [h29, if_true, Int.reduceEq, if_false]; rfl
  by_cases h21 : k = 21
  · simp only [h21, if_true, Int.reduceEq, if_false]; rfl
  by_cases h22 : k = 22
  · simp only [h22, if_true, Int.reduceEq, if_false]; rfl
  by_cases h23 : k = 23
  · simp only [h23, if_true, Int.reduceEq, if_false]; rfl
  by_cases h31 : k = 31
  · simp only [h31, if_true, Int.reduceEq, if_false]; rfl
  by_cases h32 : k = 32
  · simp only [h32, if_true, Int.reduceEq, if_false]; rfl
  by_cases h33 : k = 33
  · simp only [h33, if_true, Int.reduceEq, if_false]; rfl
  by_cases h24 : k = 24
  · simp only [h24, if_true, Int.reduceEq, if_false]; rfl
  by_cases h25 : k = 25
  · simp only [h25, if_true, Int.reduceEq, if_false]; rfl
  by_cases h27 : k = 27
  · simp only [h27, if_true, Int.reduceEq, if_false]; rfl
  by_cases h28 : k = 28
  · simp only [h28, if_true, Int.reduceEq, if_false]; rfl
  by_cases h26 : k = 26
  · simp only [h26, if_true, Int.reduceEq, if_false]; rfl
  by_cases h30 : k = 30
  · simp only [h30, if_true, Int.reduceEq, if_false]; rfl
  by_cases h35 : k = 35
  · simp only [h35, if_true, Int.reduceEq, if_false]; rfl
  by_cases h63 : k = 63
  · simp only [h63, if_true, Int.reduceEq, if_false]; rfl
  simp only [h34, h20, h29, h21, h22, h23, h31, h32, h33, h24, h25, h27, h28, h26, h30, h35, h63, if_false]; rfl
theorem dispatch_ac (σ : St) (G : Glob) (R : A → St → Prop) (h : R (.mapr σ.length) (σ ++ [some (.map dispM)])) : AC Try.prog G 63 [] σ R := by
  refine ac_enter mixed Try.func63 rfl Try.ntmps63 (by simp only [go_sem]) fun hbd => ?_
  simp only [List.length_cons, List.length_nil, Nat.reduceAdd, Nat.reduceSub, List.replicate_succ, List.replicate_zero, List.cons_append, List.nil_append]
  simp only [go_sem, Try.results63]
  exact ⟨rfl, rfl, rfl, rfl, rfl, rfl, rfl, rfl, rfl, rfl, rfl, rfl, rfl, rfl, rfl, rfl, _, _, Weak.refl _ _ _ _, h⟩
def Kx.put (X : Kx) (s : A) : Kx := { X with st := s }
def StMap (s : A) (σ : St) : Prop := s = .d .nilm ∨ ∃ im, s = .mapr im ∧ σ[im]? = some (some (.map dispM))
section
variable {X : Kx} {G : Glob} {W : List Dg} {σ0 : St}
theorem Stq.put {s : A} {ib il ib' il' : Nat} {σ σ' : St} (h : Stq (X.put s) ib il σ ib' il' σ') : Stq X ib il σ ib' il' σ' := ⟨h.atb, h.atl, h.keep⟩
/-- The table's place is the checker's. -/
theorem Ck.restate {s : A} {B : Bnd} {ds : List Dg} {ib il : Nat} {σ : St} (hC : Ck (X.put s) G W σ0 B ds ib il σ) (s' : A) :
    Ck (X.put s') G W σ0 B ds ib il (σ.set X.ic (some (.cells (chk X.S X.m X.p (.rs ib 2 0 B.length (some 110)) X.old X.ig s')))) ∧ Stq X ib il σ ib il (σ.set X.ic (some (.cells (chk X.S X.m X.p (.rs ib 2 0 B.length (some 110)) X.old X.ig s')))) := by
  obtain ⟨hrd, hg, hl, hlt, ncg, nbc, nbg, nlc, nlg, nbl, lowb, lowl, keep, pan⟩ := hC
  have hkl := keep.1
  have hot : ∀ id, id ≠ X.ic → (σ.set X.ic (some (.cells (chk X.S X.m X.p (.rs ib 2 0 B.length (some 110)) X.old X.ig s'))))[id]? = σ[id]? := fun id h2 => by rw [set_other (Ne.symm h2)]
  refine ⟨⟨⟨hrd.ok, hrd.us, hrd.pl, set_same hrd.c, (hot ib nbc).trans hrd.b, hrd.hB, hrd.hN⟩, (hot X.ig (Ne.symm ncg)).trans hg, (hot il nlc).trans hl, hlt, ncg, nbc, nbg, nlc, nlg, nbl, lowb, lowl, ?_, pan⟩, .inl rfl, .inl rfl, by simp, fun id hid hn => ?_⟩
  · refine ⟨by simp; omega, fun id hid hn => ?_⟩
    have hn2 := hn
    simp only [List.mem_cons, List.not_mem_nil, or_false, not_or] at hn2
    rw [hot id hn2.1, keep.2 id hid hn]
  · simp only [List.mem_cons, List.not_mem_nil, or_false, not_or] at hn
    exact hot id hn.1
theorem StMap.keep {s : A} {B : Bnd} {ds : List Dg} {ib il ib' il' : Nat} {σ l σ' : St} (hC : Ck (X.put s) G W σ0 B ds ib il σ) (h : StMap s σ) (k : Stq X ib il (σ ++ l) ib' il' σ') : StMap s σ' := by
  rcases h with h | ⟨im, h1, h2⟩
  · exact .inl h
  · refine .inr ⟨im, h1, ?_⟩
    have hlt := lt_of_some h2
    have n1 : im ≠ X.ic := fun e => by rw [e] at h2; have := hC.rd.c; rw [show (X.put s).ic = X.ic from rfl, h2] at this; cases this
    have n2 : im ≠ X.ig := fun e => by rw [e] at h2; have := hC.g; rw [show (X.put s).ig = X.ig from rfl, h2] at this; cases this
    have n3 : im ≠ ib := fun e => by rw [e] at h2; have := hC.rd.b; rw [h2] at this; cases this
    have n4 : im ≠ il := fun e => by rw [e] at h2; have := hC.l; rw [h2] at this; cases this
    obtain ⟨e, -, -⟩ := k.at_ (i := im) (by simp; omega) n1 n2 n3 n4
    rw [e, List.getElem?_append_left hlt]; exact h2
/-- What the check of a statement comes to. -/
def StAt (X : Kx) (G : Glob) (W : List Dg) (σ0 : St) (f : FuncId) (e : Nd) (M : List Dg) : Prop := ∀ (s : A) (ds : List Dg) (ib il : Nat) (σ : St), Ck (X.put s) G W σ0 [] ds ib il σ → StMap s σ → ds ++ M <+: W →
  ∀ R : A → St → Prop, (∀ r s' ib' il' σ', Ck (X.put s') G W σ0 [] (ds ++ M) ib' il' σ' → StMap s' σ' → Stq X ib il σ ib' il' σ' → R r σ') → AC Try.prog G f [.ref X.ic 0, .d e.d] σ R
theorem StAt.of {f : FuncId} {e : Nd} {M : List Dg} (h : ∀ s, HandAt (X.put s) G W σ0 f e M) : StAt X G W σ0 f e M := fun s ds ib il σ hC hs hW R hR =>
  h s ds ib il σ hC hW R fun r ib' il' σ' k1 k2 => hR r s ib' il' σ' k1 (hs.keep (l := []) hC (by rw [List.append_nil]; exact k2.put)) k2.put
set_option maxHeartbeats 8000000 in
theorem block_ac {e : Nd} (hok : e.Ok) (ih : ∀ k, StAt X G W σ0 43 (e.kid k) (stM X.sx (e.kid k))) : StAt X G W σ0 77 e (e.kids.flatMap (stM X.sx)) := by
  intro s ds ib il σ hC hs hW R h
  have hre : reachBytes < 9223372036854775000 := by decide
  have hkl := hok.len
  rw [Nd.d_eq]
  refine ac_enter mixed Try.func77 rfl Try.ntmps77 (by simp only [go_sem]) fun hbd => ?_
  simp only [List.length_cons, List.length_nil, Nat.reduceAdd, Nat.reduceSub, List.replicate_succ, List.replicate_zero, List.cons_append, List.nil_append]
  simp only [go_sem, List.length_map, Try.results77]
  refine aw_loop (fun m fr st => ∃ j s' ib' il', j ≤ e.kids.length ∧ m = e.kids.length - j ∧ Ck (X.put s') G W σ0 [] (ds ++ (e.kids.take j).flatMap (stM X.sx)) ib' il' st ∧ StMap s' st ∧ Stq X ib il σ ib' il' st ∧ fr = [.ref X.ic 0, .any, .any, .any, .any, .any, .any, .d (.sl 9 (e.kids.map Nd.d)), dn e.kids.length, dn j, .any, .any, .any, .any, .any, .any, .any]) e.kids.length _ ?_ ?_
  · refine Wk.mask [0, 7, 8, 9] ⟨0, s, ib, il, by omega, by omega, by simpa using hC.app [ncs e], ?_, Stq.app (Stq.refl _ _ _ _), rfl⟩
    exact hs.keep (l := [ncs e]) hC (Stq.refl _ _ _ _)
  rintro m fr st ⟨j, s', ib', il', hj, hm, hCk, hsm, hst, rfl⟩
  rcases Nat.lt_or_ge j e.kids.length with hlt | hge
  · have hd : decide ((j : Int) < (e.kids.length : Int)) = true := by simp; omega
    have e1 := kid_d hlt
    have w1 := wrapS j (by omega)
    have htk : (e.kids.take (j + 1)).flatMap (stM X.sx) = (e.kids.take j).flatMap (stM X.sx) ++ stM X.sx (e.kid j) := by
      rw [take_getD Nd.none hlt, List.flatMap_append]; simp [Nd.kid]
    have hWj : ds ++ (e.kids.take j).flatMap (stM X.sx) ++ stM X.sx (e.kid j) <+: W := by
      rw [List.append_assoc, ← htk]
      refine List.IsPrefix.trans ?_ hW
      rw [List.prefix_append_right_inj]
      conv => rhs; rw [← List.take_append_drop (j + 1) e.kids]
      rw [List.flatMap_append]; exact List.prefix_append _ _
    simp only [go_sem, hd, e1, Nd.cs, w1, List.length_map, Int.toNat_natCast, Try.results77]
    rw [← Nd.d_eq (e.kid j)]
    refine ⟨⟨by omega, by omega⟩, ac' (ih j s' _ _ _ _ (hCk.app [ncs (e.kid j)]) (hsm.keep (l := [ncs (e.kid j)]) hCk (Stq.refl _ _ _ _)) hWj _ fun r s2 ib2 il2 σ2 q1 q2 q3 => ?_)⟩
    simp only [go_sem, w1, Try.results77]
    refine Wk.mask [0, 7, 8, 9] ⟨e.kids.length - (j + 1), by omega, j + 1, s2, ib2, il2, by omega, rfl, ?_, q2, hst.trans (Stq.app q3), rfl⟩
    rw [htk, ← List.append_assoc]; exact q1
  · have hd : decide ((j : Int) < (e.kids.length : Int)) = false := by simp; omega
    rw [List.take_of_length_le hge] at hCk
    simp only [go_sem, hd, Try.results77]
    exact ⟨_, _, Weak.refl _ _ _ _, h _ _ _ _ _ hCk hsm hst⟩
end
end Go.Proofs.Ytfoblkeefpaceaa
end PartK14

section PartK15
/- Every statement. -/
set_option linter.unusedSimpArgs false
set_option linter.unusedVariables false
set_option maxRecDepth 100000
namespace Go.Proofs.Ytfoblkeefpaceaa
open Go Go.Ab

section
variable {X : Kx} {G : Glob} {W : List Dg} {σ0 : St}
/-- An expression's step between statements. -/
theorem Stq.put' {s : A} {ib il ib' il' : Nat} {σ σ' : St} (h : Stq X ib il σ ib' il' σ') : Stq (X.put s) ib il σ ib' il' σ' := ⟨h.atb, h.atl, h.keep⟩
set_option maxHeartbeats 8000000 in
theorem branch_ac {e : Nd} (hok : e.Ok) (hn : FitB [] e) (ih : ∀ k, StAt X G W σ0 43 (e.kid k) (stM X.sx (e.kid k))) : StAt X G W σ0 82 e (eM X.sx (e.kid 0) 1 ++ (stM X.sx (e.kid 1) ++ stM X.sx (e.kid 2))) := by
  intro s ds ib il σ hC hs hW R h
  have hkl := hok.len
  have hk : kidsM (fun k => exprM (X.put s).C k [] ((1 : Nat) : Int)) e 0 1 = eM X.sx (e.kid 0) 1 := kids_one _ _
  have W1 := pre1 hW
  have W2 := pre2 hW
  have W3 := pre1 W2
  have W4 := pre2 W2
  rw [Nd.d_eq]
  refine ac_enter mixed Try.func82 rfl Try.ntmps82 (by simp only [go_sem]) fun hbd => ?_
  simp only [List.length_cons, List.length_nil, Nat.reduceAdd, Nat.reduceSub, List.replicate_succ, List.replicate_zero, List.cons_append, List.nil_append]
  simp only [go_sem, Try.results82]
  rw [← Nd.d_eq]
  refine ac' (kids_ac (X := X.put s) hok 0 1 (by omega) (by omega) 1 (by omega) (fun k => expr_ac _ (hok.kid k)) (hC.app [ncs e]) (fun k => hn.kid k) (by rw [hk]; exact W1) _ fun r ib2 il2 σ2 q1 q2 => ?_)
  rw [hk] at q1
  have hs2 := hs.keep hC q2.put
  have hloc := Stq.own hC q2 (i := 0) rfl
  rw [Nat.add_zero] at hloc
  simp only [go_sem, live_of hloc, objK_of hloc, Try.results82]
  rw [← Nd.d_eq]
  refine ac' (kid_ac e 1 (by omega) hkl _ _ _ ?_)
  simp only [go_sem, live_of hloc, objK_of hloc, Try.results82]
  refine ac' (ih 1 s _ _ _ _ q1 hs2 W3 _ fun r s3 ib3 il3 σ3 q3 q4 q5 => ?_)
  have hst3 := q2.put.trans q5
  have hloc3 := Stq.own hC hst3.put' (i := 0) rfl
  rw [Nat.add_zero] at hloc3
  simp only [go_sem, live_of hloc3, objK_of hloc3, Try.results82]
  rw [← Nd.d_eq]
  refine ac' (kid_ac e 2 (by omega) hkl _ _ _ ?_)
  simp only [go_sem, live_of hloc3, objK_of hloc3, Try.results82]
  refine ac' (ih 2 s3 _ _ _ _ q3 q4 W4 _ fun r s6 ib6 il6 σ6 q6 q7 q8 => ?_)
  refine ⟨_, _, Weak.refl _ _ _ _, h _ _ _ _ _ ?_ q7 (Stq.app (hst3.trans q8))⟩
  simpa only [List.append_assoc] using q6
set_option maxHeartbeats 8000000 in
theorem loop_ac {e : Nd} (hok : e.Ok) (hn : FitB [] e) (ih : ∀ k, StAt X G W σ0 43 (e.kid k) (stM X.sx (e.kid k))) : StAt X G W σ0 83 e (eM X.sx (e.kid 0) 1 ++ ((if (e.kid 1).kind ≠ 63 then freeM X.sx (e.kid 1) 0 else []) ++ stM X.sx (e.kid 2))) := by
  intro s ds ib il σ hC hs hW R h
  have hkl := hok.len
  have hk : kidsM (fun k => exprM (X.put s).C k [] ((1 : Nat) : Int)) e 0 1 = eM X.sx (e.kid 0) 1 := kids_one _ _
  generalize hm : (if (e.kid 1).kind ≠ 63 then freeM X.sx (e.kid 1) 0 else []) = m1 at hW h
  have W1 := pre1 hW
  have W2 := pre2 hW
  have W3 := pre1 W2
  have W4 := pre2 W2
  rw [Nd.d_eq]
  refine ac_enterC' [2, 5] mixed Try.func83 rfl Try.ntmps83 (by simp only [go_sem]) fun hbd => ?_
  simp only [List.length_cons, List.length_nil, Nat.reduceAdd, Nat.reduceSub, List.replicate_succ, List.replicate_zero, List.cons_append, List.nil_append]
  simp only [go_sem, Try.results83]
  refine aw_cut (fun fr st => ∃ ib' il', Ck (X.put s) G W σ0 [] (ds ++ eM X.sx (e.kid 0) 1) ib' il' st ∧ Stq X ib il (σ ++ [ncs e]) ib' il' st ∧ StMap s st ∧ fr = [.ref X.ic 0, .any, .any, .ref σ.length 0, .any, .any, .any, .any, .any, .any, .any, .any, .any, .any, .any, .any, .any, .any, .any, .any]) ?_ ?_
  · simp only [go_sem, Try.results83]
    rw [← Nd.d_eq]
    refine ac' (kids_ac (X := X.put s) hok 0 1 (by omega) (by omega) 1 (by omega) (fun k => expr_ac _ (hok.kid k)) (hC.app [ncs e]) (fun k => hn.kid k) (by rw [hk]; exact W1) _ fun r ib2 il2 σ2 q1 q2 => ?_)
    rw [hk] at q1
    simp only [go_sem, Try.results83]
    exact Wk.mask [0, 3] ⟨_, _, q1, q2.put, hs.keep hC q2.put, rfl⟩
  rintro fr st ⟨ib', il', hCk, hst, hsm, rfl⟩
  have hloc := Stq.own hC hst.put' (i := 0) rfl
  rw [Nat.add_zero] at hloc
  refine aw_cut (fun fr st => ∃ ib' il', Ck (X.put s) G W σ0 [] (ds ++ eM X.sx (e.kid 0) 1 ++ m1) ib' il' st ∧ Stq X ib il (σ ++ [ncs e]) ib' il' st ∧ StMap s st ∧ fr = [.ref X.ic 0, .any, .any, .ref σ.length 0, .any, .any, .any, .any, .any, .any, .any, .any, .any, .any, .any, .any, .any, .any, .any, .any]) ?_ ?_
  · simp only [go_sem, live_of hloc, objK_of hloc, Try.results83]
    rw [← Nd.d_eq]
    refine ac' (kid_ac e 1 (by omega) hkl _ _ _ ?_)
    rw [Nd.d_eq (e.kid 1)]
    by_cases k1 : (e.kid 1).kind = 63
    · have c1 : ((e.kid 1).kind != 63) = false := by simpa using k1
      rw [if_neg (by omega)] at hm
      subst hm
      simp only [go_sem, c1, List.append_nil, Try.results83]
      exact Wk.mask [0, 3] ⟨_, _, hCk.app _, hst.trans (Stq.app (Stq.refl _ _ _ _)), hsm.keep (l := [ncs (e.kid 1)]) hCk (Stq.refl _ _ _ _), rfl⟩
    · have c1 : ((e.kid 1).kind != 63) = true := by simpa using k1
      rw [if_pos k1] at hm
      subst hm
      simp only [go_sem, c1, Try.results83]
      rw [← Nd.d_eq (e.kid 1)]
      refine ac' (free_ac (X := X.put s) (hok.kid 1) (expr_ac _ (hok.kid 1)) 0 (by omega) (hCk.app [ncs (e.kid 1)]) (hn.kid 1) W3 _ fun r ib2 il2 σ2 q1 q2 => ?_)
      simp only [go_sem, Try.results83]
      have q5 : Ck (X.put s) G W σ0 [] (ds ++ eM X.sx (e.kid 0) 1 ++ freeM X.sx (e.kid 1) 0) ib2 il2 σ2 := q1
      simp only [List.append_assoc] at q5
      exact Wk.mask [0, 3] ⟨_, _, q5, hst.trans (Stq.app q2.put), hsm.keep hCk q2.put, rfl⟩
  clear hloc hst hCk hsm
  rintro fr st ⟨ib', il', hCk, hst, hsm, rfl⟩
  have hloc := Stq.own hC hst.put' (i := 0) rfl
  rw [Nat.add_zero] at hloc
  simp only [go_sem, live_of hloc, objK_of hloc, Try.results83]
  rw [← Nd.d_eq]
  refine ac' (kid_ac e 2 (by omega) hkl _ _ _ ?_)
  simp only [go_sem, live_of hloc, objK_of hloc, Try.results83]
  refine ac' (ih 2 s _ _ _ _ hCk hsm W4 _ fun r s6 ib6 il6 σ6 q6 q7 q8 => ?_)
  refine ⟨_, _, Weak.refl _ _ _ _, h _ _ _ _ _ ?_ q7 (Stq.app (hst.trans q8))⟩
  simpa only [List.append_assoc] using q6
/-- The checks of the table. -/
theorem hand_ac {e : Nd} (hok : e.Ok) (hn : FitB [] e) (hm : inMods X.S X.m = true) (ih : ∀ k, StAt X G W σ0 43 (e.kid k) (stM X.sx (e.kid k))) : ∀ f, handF e.kind = some f → StAt X G W σ0 f e (stM X.sx e) := by
  intro f hf
  rw [st_eq]
  unfold handF at hf
  by_cases h34 : e.kind = 34
  · simp only [h34, if_true, Int.reduceEq, or_false, false_or, or_true, true_or, if_false, Option.some.injEq] at hf ⊢
    subst hf
    exact block_ac hok ih
  by_cases h20 : e.kind = 20
  · simp only [h20, if_true, Int.reduceEq, or_false, false_or, or_true, true_or, if_false, Option.some.injEq] at hf ⊢
    subst hf
    exact StAt.of fun s => claim_ac hok hn
  by_cases h29 : e.kind = 29
  · simp only [h29, if_true, Int.reduceEq, or_false, false_or, or_true, true_or, if_false, Option.some.injEq] at hf ⊢
    subst hf
    exact StAt.of fun s => claim_ac hok hn
  by_cases h21 : e.kind = 21
  · simp only [h21, if_true, Int.reduceEq, or_false, false_or, or_true, true_or, if_false, Option.some.injEq] at hf ⊢
    subst hf
    exact StAt.of fun s => assign_ac hok hn
  by_cases h22 : e.kind = 22
  · simp only [h22, if_true, Int.reduceEq, or_false, false_or, or_true, true_or, if_false, Option.some.injEq] at hf ⊢
    subst hf
    exact StAt.of fun s => atomic_ac hok hn
  by_cases h23 : e.kind = 23
  · simp only [h23, if_true, Int.reduceEq, or_false, false_or, or_true, true_or, if_false, Option.some.injEq] at hf ⊢
    subst hf
    exact StAt.of fun s => cas_ac hok hn
  by_cases h31 : e.kind = 31
  · simp only [h31, if_true, Int.reduceEq, or_false, false_or, or_true, true_or, if_false, Option.some.injEq] at hf ⊢
    subst hf
    exact branch_ac hok hn ih
  by_cases h32 : e.kind = 32
  · simp only [h32, if_true, Int.reduceEq, or_false, false_or, or_true, true_or, if_false, Option.some.injEq] at hf ⊢
    subst hf
    exact loop_ac hok hn ih
  by_cases h33 : e.kind = 33
  · simp only [h33, if_true, Int.reduceEq, or_false, false_or, or_true, true_or, if_false, Option.some.injEq] at hf ⊢
    subst hf
    exact StAt.of fun s => call_ac hok hn hm
  by_cases h24 : e.kind = 24
  · simp only [h24, if_true, Int.reduceEq, or_false, false_or, or_true, true_or, if_false, Option.some.injEq] at hf ⊢
    subst hf
    exact StAt.of fun s => lock_ac hok
  by_cases h25 : e.kind = 25
  · simp only [h25, if_true, Int.reduceEq, or_false, false_or, or_true, true_or, if_false, Option.some.injEq] at hf ⊢
    subst hf
    exact StAt.of fun s => lock_ac hok
  by_cases h27 : e.kind = 27
  · simp only [h27, if_true, Int.reduceEq, or_false, false_or, or_true, true_or, if_false, Option.some.injEq] at hf ⊢
    subst hf
    exact StAt.of fun s => thread_ac hok
  by_cases h28 : e.kind = 28
  · simp only [h28, if_true, Int.reduceEq, or_false, false_or, or_true, true_or, if_false, Option.some.injEq] at hf ⊢
    subst hf
    exact StAt.of fun s => thread_ac hok
  by_cases h26 : e.kind = 26
  · simp only [h26, if_true, Int.reduceEq, or_false, false_or, or_true, true_or, if_false, Option.some.injEq] at hf ⊢
    subst hf
    exact StAt.of fun s => nothing_ac
  by_cases h30 : e.kind = 30
  · simp only [h30, if_true, Int.reduceEq, or_false, false_or, or_true, true_or, if_false, Option.some.injEq] at hf ⊢
    subst hf
    exact StAt.of fun s => nothing_ac
  by_cases h35 : e.kind = 35
  · simp only [h35, if_true, Int.reduceEq, or_false, false_or, or_true, true_or, if_false, Option.some.injEq] at hf ⊢
    subst hf
    exact StAt.of fun s => nothing_ac
  by_cases h63 : e.kind = 63
  · simp only [h63, if_true, Int.reduceEq, or_false, false_or, or_true, true_or, if_false, Option.some.injEq] at hf ⊢
    subst hf
    exact StAt.of fun s => nothing_ac
  simp only [h34, h20, h29, h21, h22, h23, h31, h32, h33, h24, h25, h27, h28, h26, h30, h35, h63, if_false] at hf
  cases hf
/-- No check of the table: no statement. -/
theorem hand_none (Y : Sx) {e : Nd} (h : handF e.kind = none) : stM Y e = [⟨44, e.pos⟩] := by
  rw [st_eq]
  unfold handF at h
  by_cases h34 : e.kind = 34
  · simp only [h34, if_true, Int.reduceEq, if_false] at h; cases h
  by_cases h20 : e.kind = 20
  · simp only [h20, if_true, Int.reduceEq, if_false] at h; cases h
  by_cases h29 : e.kind = 29
  · simp only [h29, if_true, Int.reduceEq, if_false] at h; cases h
  by_cases h21 : e.kind = 21
  · simp only [h21, if_true, Int.reduceEq, if_false] at h; cases h
  by_cases h22 : e.kind = 22
  · simp only [h22, if_true, Int.reduceEq, if_false] at h; cases h
  by_cases h23 : e.kind = 23
  · simp only [h23, if_true, Int.reduceEq, if_false] at h; cases h
  by_cases h31 : e.kind = 31
  · simp only [h31, if_true, Int.reduceEq, if_false] at h; cases h
  by_cases h32 : e.kind = 32
  · simp only [h32, if_true, Int.reduceEq, if_false] at h; cases h
  by_cases h33 : e.kind = 33
  · simp only [h33, if_true, Int.reduceEq, if_false] at h; cases h
  by_cases h24 : e.kind = 24
  · simp only [h24, if_true, Int.reduceEq, if_false] at h; cases h
  by_cases h25 : e.kind = 25
  · simp only [h25, if_true, Int.reduceEq, if_false] at h; cases h
  by_cases h27 : e.kind = 27
  · simp only [h27, if_true, Int.reduceEq, if_false] at h; cases h
  by_cases h28 : e.kind = 28
  · simp only [h28, if_true, Int.reduceEq, if_false] at h; cases h
  by_cases h26 : e.kind = 26
  · simp only [h26, if_true, Int.reduceEq, if_false] at h; cases h
  by_cases h30 : e.kind = 30
  · simp only [h30, if_true, Int.reduceEq, if_false] at h; cases h
  by_cases h35 : e.kind = 35
  · simp only [h35, if_true, Int.reduceEq, if_false] at h; cases h
  by_cases h63 : e.kind = 63
  · simp only [h63, if_true, Int.reduceEq, if_false] at h; cases h
  simp only [h34, h20, h29, h21, h22, h23, h31, h32, h33, h24, h25, h27, h28, h26, h30, h35, h63, if_false, or_self]
theorem isMap84 : isMapT Try.prog 84 = true := by kernel_rfl
set_option maxHeartbeats 16000000 in
theorem st_ac (hm : inMods X.S X.m = true) : ∀ e : Nd, e.Ok → FitB [] e → StAt X G W σ0 43 e (stM X.sx e) := by
  have step : ∀ e : Nd, e.Ok → (∀ f, handF e.kind = some f → StAt X G W σ0 f e (stM X.sx e)) → StAt X G W σ0 43 e (stM X.sx e) := by
    intro e hok hh s ds ib il σ hC hs hW R h
    have hc : σ[X.ic]? = some (some (.cells (chk X.S X.m X.p (.rs ib 2 0 ([] : Bnd).length (some 110)) X.old X.ig s))) := hC.rd.c
    unfold chk at hc
    have hlt := lt_of_some hc
    rw [Nd.d_eq]
    refine ac_enterC' [3] mixed Try.func43 rfl Try.ntmps43 (by simp only [go_sem]) fun hbd => ?_
    simp only [List.length_cons, List.length_nil, Nat.reduceAdd, Nat.reduceSub, List.replicate_succ, List.replicate_zero, List.cons_append, List.nil_append]
    simp only [go_sem, Try.results43]
    refine aw_cut (fun fr st => ∃ im, Ck (X.put (.mapr im)) G W σ0 [] ds ib il st ∧ st[im]? = some (some (.map dispM)) ∧ Stq X ib il (σ ++ [ncs e]) ib il st ∧ fr = [.ref X.ic 0, .any, .any, .ref σ.length 0, .any, .any, .any, .any, .any, .any, .any, .any, .any, .any, .any, .any, .any, .any, .any, .any, .any, .any, .any, .any, .any, .any, .any, .any, .any, .any, .any, .any, .any, .any, .any, .any, .any]) ?_ ?_
    · rcases hs with rfl | ⟨im, rfl, him⟩
      · simp only [go_sem, live_old hc, objK_old hc, isMap84, Try.results43]
        refine ac' (dispatch_ac _ _ _ ?_)
        simp only [go_sem, live_old hc, objK_old hc, set_old hlt, Try.results43]
        obtain ⟨z1, z2⟩ := Ck.restate (X := X) hC (.mapr (σ.length + 1))
        unfold chk at z1 z2
        refine Wk.mask [0, 3] ⟨σ.length + 1, z1.app _, ?_, ?_, rfl⟩
        · rw [List.getElem?_append_right (by rw [List.length_set]; omega), List.length_set, Nat.add_sub_cancel_left]; rfl
        · refine ⟨.inl rfl, .inl rfl, by simp, fun id hid hn => ?_⟩
          simp only [List.mem_cons, List.not_mem_nil, or_false, not_or] at hn
          simp only [List.length_append, List.length_cons, List.length_nil] at hid
          rcases Nat.lt_or_ge id σ.length with hl | hl
          · rw [List.getElem?_append_left (by rw [List.length_set]; exact hl), List.getElem?_append_left hl, set_other (Ne.symm hn.1)]
          · have : id = σ.length := by omega
            subst this
            rw [List.getElem?_append_right (by rw [List.length_set]; exact Nat.le_refl _), List.getElem?_append_right (Nat.le_refl _), List.length_set, Nat.sub_self]; rfl
      · simp only [go_sem, live_old hc, objK_old hc, isMap84, Try.results43]
        refine Wk.mask [0, 3] ⟨im, hC.app _, ?_, Stq.refl _ _ _ _, rfl⟩
        rw [List.getElem?_append_left (lt_of_some him)]; exact him
    · rintro fr st ⟨im, hCk, him, hst, rfl⟩
      have hloc := Stq.own hC hst.put' (i := 0) rfl
      rw [Nat.add_zero] at hloc
      have hc2 : st[X.ic]? = some (some (.cells (chk X.S X.m X.p (.rs ib 2 0 ([] : Bnd).length (some 110)) X.old X.ig (.mapr im)))) := hCk.rd.c
      unfold chk at hc2
      simp only [go_sem, Try.results43]
      refine aw_plan (.tk 12 0 <| .done) (by kernel_rfl) ?_
      cases hf : handF e.kind with
      | none =>
        have hl : lookV true (iD e.kind) (some (A.d D.nilf)) dispM = some (.tup [.d .nilf, db false]) := by unfold lookV; rw [find_disp, hf]; rfl
        rw [hand_none X.sx hf] at hW h
        simp only [go_sem, live_of hc2, objK_of hc2, live_of hloc, objK_of hloc, mapK_of him, hl, Try.results43]
        refine aw_plan (.tk 7 0 <| .done) (by kernel_rfl) ?_
        simp only [go_sem, live_of hc2, objK_of hc2, live_of hloc, objK_of hloc, Try.results43]
        refine ac' (report_ac hCk 44 e.pos hW _ fun r il2 σ2 q1 q2 => ?_)
        exact ⟨_, _, Weak.refl _ _ _ _, h _ _ _ _ _ q1 (StMap.keep (l := []) hCk (.inr ⟨im, rfl, him⟩) (by rw [List.append_nil]; exact q2.put)) (Stq.app (hst.trans q2.put))⟩
      | some f =>
        have hl : lookV true (iD e.kind) (some (A.d D.nilf)) dispM = some (.tup [.fn (.func f) [] [], db true]) := by unfold lookV; rw [find_disp, hf]; rfl
        simp only [go_sem, live_of hc2, objK_of hc2, live_of hloc, objK_of hloc, mapK_of him, hl, Try.results43]
        rw [← Nd.d_eq e]
        refine ac' (hh f hf _ _ _ _ _ hCk (.inr ⟨im, rfl, him⟩) hW _ fun r s2 ib2 il2 σ2 q1 q2 q3 => ?_)
        exact ⟨_, _, Weak.refl _ _ _ _, h _ _ _ _ _ q1 q2 (Stq.app (hst.trans q3))⟩
  refine Nd.ind (fun _ _ => ?_) fun e ih _ hok hn => step e hok fun f hf => hand_ac hok hn hm (fun k => ih k (hok.kid k) (hn.kid k)) f hf
  refine step Nd.none Nd.none_ok fun f hf => ?_
  have : (87 : Nat) = f := by injection hf
  subst this
  rw [st_none]
  exact StAt.of fun s => nothing_ac
end
end Go.Proofs.Ytfoblkeefpaceaa
end PartK15

section PartK16
/- The checks of all declarations. -/
set_option linter.unusedSimpArgs false
set_option linter.unusedVariables false
set_option maxRecDepth 100000
namespace Go.Proofs.Ytfoblkeefpaceaa
open Go Go.Ab

section
variable {X : Kx} {G : Glob} {W : List Dg} {σ0 : St}
set_option maxHeartbeats 16000000 in
theorem contract_ac {m : Mo} (hok : m.Ok) (h1 : FitB [] m.rely) (h2 : FitB [] m.guar) {ds : List Dg} {ib il : Nat} {σ : St} (hC : Ck X G W σ0 [] ds ib il σ) (hW : ds ++ (truthM X.sx m.rely ++ (truthM X.sx m.guar ++ m.frame.flatMap (frameM X.S X.m))) <+: W) (R : A → St → Prop)
    (h : Does' X G W σ0 [] ds (truthM X.sx m.rely ++ (truthM X.sx m.guar ++ m.frame.flatMap (frameM X.S X.m))) ib il σ R) : AC Try.prog G 41 [.ref X.ic 0, .d (moD m)] σ R := by
  have hre : reachBytes < 9223372036854775000 := by decide
  have hfl := hok.len
  have W1 := pre1 hW
  have W2 := pre2 hW
  have W3 := pre1 W2
  have W4 := pre2 W2
  have hsy : syD X.S = .agg [.sl 22 (X.S.mods.map moD), vrsD X.S.vars, .sl 12 (X.S.locks.map lkD), .sl 16 (X.S.procs.map prD), .sl 5 (X.S.threads.map thD)] := rfl
  simp only [moD, Nd.cs, List.cons_append, List.nil_append]
  refine ac_enter' mixed Try.func41 rfl Try.ntmps41 (by simp only [go_sem]) fun hbd => ?_
  simp only [List.length_cons, List.length_nil, Nat.reduceAdd, Nat.reduceSub, List.replicate_succ, List.replicate_zero, List.cons_append, List.nil_append]
  simp only [go_sem, Try.results41]
  rw [← Nd.d_eq m.rely]
  refine ac' (truth_ac hok.rely h1 (hC.app _) W1 _ fun r ib2 il2 σ2 q1 q2 => ?_)
  have hl2 := Stq.own hC q2 (i := 0) rfl
  rw [Nat.add_zero] at hl2
  simp only [go_sem, live_of hl2, objK_of hl2, Try.results41]
  rw [← Nd.d_eq m.guar]
  refine ac' (truth_ac hok.guar h2 q1 W3 _ fun r ib3 il3 σ3 q3 q4 => ?_)
  have hst := Stq.app (q2.trans q4)
  have hl3 := Stq.own hC (q2.trans q4) (i := 0) rfl
  rw [Nat.add_zero] at hl3
  simp only [go_sem, live_of hl3, objK_of hl3, List.length_map, Try.results41]
  obtain ⟨P, hP⟩ : ∃ P, P = ds ++ truthM X.sx m.rely ++ truthM X.sx m.guar := ⟨_, rfl⟩
  rw [← hP] at q3 W4
  refine aw_loop (fun q fr st => ∃ j ib' il', j ≤ m.frame.length ∧ q = m.frame.length - j ∧ Ck X G W σ0 [] (P ++ (m.frame.take j).flatMap (frameM X.S X.m)) ib' il' st ∧ Stq X ib il σ ib' il' st ∧ fr = [.ref X.ic 0, .any, .any, .any, .any, .any, .any, .any, .any, .any, .any, .any, .any, .any, .any, .any, .any, .d (.sl 9 (m.frame.map Nd.d)), dn m.frame.length, dn j, .any, .any, .any, .any, .any, .any, .any, .any, .any, .any, .any, .any, .any, .any, .any, .any, .any, .any, .any, .any, .any, .any, .any, .any, .any, .any, .any, .any, .any, .any, .any, .any, .any, .any, .any, .any, .any, .any]) m.frame.length _ ?_ ?_
  · exact Wk.mask [0, 17, 18, 19] ⟨0, ib3, il3, by omega, by omega, by simpa using q3, hst, rfl⟩
  clear hl3 hl2 hst q1 q2 q3 q4
  rintro q fr st ⟨j, ib', il', hj, hq, hCk, hst, rfl⟩
  rcases Nat.lt_or_ge j m.frame.length with hlt | hge
  · have hd : decide ((j : Int) < (m.frame.length : Int)) = true := by simp; omega
    have w1 := wrapS j (by omega)
    have hnok := hok.frame _ (getD_mem Nd.none hlt)
    have e1 : List.getD (m.frame.map Nd.d) j default = .agg (m.frame.getD j Nd.none).cs := by rw [getD_mapD (d := Nd.none) hlt, Nd.d_eq]; rfl
    have htk : (m.frame.take (j + 1)).flatMap (frameM X.S X.m) = (m.frame.take j).flatMap (frameM X.S X.m) ++ frameM X.S X.m (m.frame.getD j Nd.none) := by
      rw [take_getD Nd.none hlt, List.flatMap_append]; simp
    have hWj : P ++ (m.frame.take j).flatMap (frameM X.S X.m) ++ frameM X.S X.m (m.frame.getD j Nd.none) <+: W := by
      rw [List.append_assoc _ _ (frameM X.S X.m _), ← htk]
      refine List.IsPrefix.trans ?_ W4
      rw [List.prefix_append_right_inj]
      conv => rhs; rw [← List.take_append_drop (j + 1) m.frame]
      rw [List.flatMap_append]; exact List.prefix_append _ _
    generalize m.frame.getD j Nd.none = n at hnok e1 htk hWj
    have hc := hCk.rd.c
    unfold chk at hc
    have hfm : frameM X.S X.m n = match lookM X.S X.m (-1) n.name with | .at_ _ _ => rep (decide (0 < n.kids.length)) 51 n.pos | _ => [⟨40, n.pos⟩] := rfl
    simp only [go_sem, hd, e1, Nd.cs, List.length_map, Int.toNat_natCast, Try.results41]
    refine ⟨⟨by omega, by omega⟩, ?_⟩
    refine aw_plan (.tk 10 0 <| .pure 10 <| .tk 6 11 <| .done) (by kernel_rfl) ?_
    simp only [go_sem, live_old hc, objK_old hc, Try.results41]
    refine exP (tgA (lookM X.S X.m (-1) n.name)) ⟨fun σ' => ?_, ?_⟩
    · simp only [go_sem, Try.results41]
      rw [← hsy]
      exact ac' (look_ac X.S hCk.rd.ok X.m (-1) n.name hnok.nm _ _ _ ⟨rfl, rfl⟩)
    have hk1 : ((1 : Int) != 0) = true := rfl
    have hk2 : ((40 : Int) != 0) = true := rfl
    have hk3 : ((0 : Int) != 0) = false := rfl
    cases hk : lookM X.S X.m (-1) n.name with
    | bad =>
      have e : frameM X.S X.m n = [⟨40, n.pos⟩] := by rw [hfm, hk]
      rw [e] at htk hWj
      simp only [tgA, go_sem, hk1, Try.results41]
      refine aw_plan (.tk 7 0 <| .done) (by kernel_rfl) ?_
      simp only [go_sem, live_old hc, objK_old hc, Try.results41]
      refine ac' (report_ac (hCk.app _) 40 n.pos hWj _ fun r il2 σ2 z1 z2 => ?_)
      simp only [go_sem, w1, Try.results41]
      exact Wk.mask [0, 17, 18, 19] ⟨m.frame.length - (j + 1), by omega, j + 1, _, _, by omega, rfl, by rw [htk, ← List.append_assoc]; exact z1, hst.trans (Stq.app z2), rfl⟩
    | no =>
      have e : frameM X.S X.m n = [⟨40, n.pos⟩] := by rw [hfm, hk]
      rw [e] at htk hWj
      simp only [tgA, go_sem, hk2, Try.results41]
      refine aw_plan (.tk 7 0 <| .done) (by kernel_rfl) ?_
      simp only [go_sem, live_old hc, objK_old hc, Try.results41]
      refine ac' (report_ac (hCk.app _) 40 n.pos hWj _ fun r il2 σ2 z1 z2 => ?_)
      simp only [go_sem, w1, Try.results41]
      exact Wk.mask [0, 17, 18, 19] ⟨m.frame.length - (j + 1), by omega, j + 1, _, _, by omega, rfl, by rw [htk, ← List.append_assoc]; exact z1, hst.trans (Stq.app z2), rfl⟩
    | at_ k i =>
      rcases Nat.eq_zero_or_pos n.kids.length with k0 | k0
      · have e : frameM X.S X.m n = [] := by rw [hfm, hk]; simp [rep, k0]
        rw [e] at htk hWj
        have d0 : decide ((0 : Int) < (n.kids.length : Int)) = false := decide_eq_false (by omega)
        simp only [tgA, go_sem, hk3, d0, List.length_map, w1, Try.results41]
        exact Wk.mask [0, 17, 18, 19] ⟨m.frame.length - (j + 1), by omega, j + 1, _, _, by omega, rfl, by rw [htk, List.append_nil]; exact hCk.app _, hst.trans (Stq.app (Stq.refl _ _ _ _)), rfl⟩
      · have e : frameM X.S X.m n = [⟨51, n.pos⟩] := by rw [hfm, hk]; simp [rep, k0]
        rw [e] at htk hWj
        have d0 : decide ((0 : Int) < (n.kids.length : Int)) = true := decide_eq_true (by omega)
        simp only [tgA, go_sem, hk3, d0, List.length_map, Try.results41]
        refine aw_plan (.tk 7 0 <| .done) (by kernel_rfl) ?_
        simp only [go_sem, live_old hc, objK_old hc, Try.results41]
        refine ac' (report_ac (hCk.app _) 51 n.pos hWj _ fun r il2 σ2 z1 z2 => ?_)
        simp only [go_sem, w1, Try.results41]
        exact Wk.mask [0, 17, 18, 19] ⟨m.frame.length - (j + 1), by omega, j + 1, _, _, by omega, rfl, by rw [htk, ← List.append_assoc]; exact z1, hst.trans (Stq.app z2), rfl⟩
  · have hd : decide ((j : Int) < (m.frame.length : Int)) = false := by simp; omega
    rw [List.take_of_length_le hge] at hCk
    simp only [go_sem, hd, Try.results41]
    refine ⟨_, _, Weak.refl _ _ _ _, h _ _ _ _ ?_ hst⟩
    simpa only [hP, List.append_assoc] using hCk
end
end Go.Proofs.Ytfoblkeefpaceaa
end PartK16

section PartK17
/- The check of a whole: contracts, lock invariants, procedures. -/
set_option linter.unusedSimpArgs false
set_option linter.unusedVariables false
set_option maxRecDepth 100000
namespace Go.Proofs.Ytfoblkeefpaceaa
open Go Go.Ab

theorem zip_take {α β : Type} (l : List α) (d : α) (f : α × Nat → List β) {j : Nat} (h : j < l.length) : (l.zipIdx.take (j + 1)).flatMap f = (l.zipIdx.take j).flatMap f ++ f (l.getD j d, j) := by
  rw [take_getD (d, 0) (by simpa using h), List.flatMap_append]
  have : l.zipIdx.getD j (d, 0) = (l.getD j d, j) := by
    simp [List.getD_eq_getElem?_getD, List.getElem?_eq_getElem h]
  rw [this]; simp
theorem pre_take {α β : Type} (l : List α) (f : α → List β) (j : Nat) : (l.take j).flatMap f <+: l.flatMap f := by
  conv => rhs; rw [← List.take_append_drop j l]
  rw [List.flatMap_append]; exact List.prefix_append _ _
theorem pre_app {α : Type} {P a b W : List α} (h : a <+: b) (k : P ++ b <+: W) : P ++ a <+: W := ((List.prefix_append_right_inj P).2 h).trans k
structure Sy.Fit (S : Sy) : Prop where
  mo : ∀ m ∈ S.mods, FitB [] m.rely ∧ FitB [] m.guar
  lo : ∀ l ∈ S.locks, FitB [] l.inv
  pr : ∀ p ∈ S.procs, FitB [] p.body
def kq (S : Sy) (m p : Int) (old : Bool) (ig ic : Nat) (s : A) : Kx := ⟨S, m, p, old, ig, ic, s⟩
theorem new_at (σ : St) (i : Nat) (x : Option Ob) (o : Ob) : (σ.set i x ++ [some o])[σ.length]? = some (some o) := by
  rw [List.getElem?_append_right (by rw [List.length_set]; exact Nat.le_refl _), List.length_set, Nat.sub_self]; rfl
theorem new_live (σ : St) (i : Nat) (x : Option Ob) (o : Ob) : liveId (σ.set i x ++ [some o]) σ.length = true := live_of (new_at σ i x o)
theorem new_objK (σ : St) (i : Nat) (x : Option Ob) (o : List A) (K : List A → Prop) : objK (σ.set i x ++ [some (.cells o)]) σ.length K = K o := objK_of (new_at σ i x _)
section
variable {S : Sy} {G : Glob} {W : List Dg} {σ0 : St}
/-- The checker's place is written anew. -/
theorem Ck.reset {m p : Int} {old : Bool} {ig ic : Nat} {s : A} {B : Bnd} {ds : List Dg} {ib il : Nat} {σ : St} (hC : Ck (kq S m p old ig ic s) G W σ0 B ds ib il σ) (m' p' : Int) (old' : Bool) (s' : A) :
    Ck (kq S m' p' old' ig ic s') G W σ0 B ds ib il (σ.set ic (some (.cells (chk S m' p' (.rs ib 2 0 B.length (some 110)) old' ig s')))) := by
  obtain ⟨hrd, hg, hl, hlt, ncg, nbc, nbg, nlc, nlg, nbl, lowb, lowl, keep, pan⟩ := hC
  have hkl := keep.1
  have hot : ∀ id, id ≠ ic → (σ.set ic (some (.cells (chk S m' p' (.rs ib 2 0 B.length (some 110)) old' ig s'))))[id]? = σ[id]? := fun id h2 => by rw [set_other (Ne.symm h2)]
  refine ⟨⟨hrd.ok, hrd.us, hrd.pl, set_same hrd.c, (hot ib nbc).trans hrd.b, hrd.hB, hrd.hN⟩, (hot ig (Ne.symm ncg)).trans hg, (hot il nlc).trans hl, hlt, ncg, nbc, nbg, nlc, nlg, nbl, lowb, lowl, ?_, pan⟩
  refine ⟨by simp; omega, fun id hid hn => ?_⟩
  have hn2 := hn
  simp only [List.mem_cons, List.not_mem_nil, or_false, not_or] at hn2
  rw [hot id hn2.1, keep.2 id hid hn]
/-- The checker anywhere. -/
def Any (S : Sy) (G : Glob) (W : List Dg) (σ0 : St) (ig ic : Nat) (ds : List Dg) (σ : St) : Prop := ∃ (m p : Int) (old : Bool) (s : A) (ib il : Nat), Ck (kq S m p old ig ic s) G W σ0 [] ds ib il σ ∧ StMap s σ
theorem StMap.app {s : A} {σ : St} (h : StMap s σ) (l : St) : StMap s (σ ++ l) := by
  rcases h with h | ⟨im, h, him⟩
  · exact .inl h
  · exact .inr ⟨im, h, by rw [List.getElem?_append_left (lt_of_some him)]; exact him⟩
def mo0 : Mo := ⟨[], [], Nd.none, Nd.none, [], 0⟩
theorem mo_get {l : List Mo} {i : Nat} (h : i < l.length) : List.getD (l.map moD) i default = moD (l.getD i mo0) := by
  rw [getD_mapD (d := mo0) h]
theorem lk_get {l : List Lk} {i : Nat} (h : i < l.length) : List.getD (l.map lkD) i default = lkD (l.getD i lk0) := by
  rw [getD_mapD (d := lk0) h]
def mds (S : Sy) : List Dg := S.mods.zipIdx.flatMap fun x => contractM S x.2 x.1
def lds (S : Sy) : List Dg := S.locks.flatMap (lockM S)
def pds (S : Sy) : List Dg := S.procs.zipIdx.flatMap fun x => procM S x.2 x.1
set_option maxHeartbeats 32000000 in
theorem whole_ac (hS : S.Ok) (hu : usableM S = true) (hF : S.Fit) {ig ic bS : Nat} {ib il : Nat} {σ : St} (hb : bS < σ0.length) (hbS : σ0[bS]? = some (scs S)) (hbc : bS ≠ ic) (hbg : bS ≠ ig) (hC : Ck (kq S 0 (-1) false ig ic (.d .nilm)) G W σ0 [] [] ib il σ) (hW : W = mds S ++ (lds S ++ pds S)) (R : A → St → Prop)
    (h : ∀ r σ', Any S G W σ0 ig ic W σ' → R r σ') : AC Try.prog G 40 [.ref ic 0, .ref bS 0] σ R := by
  have hre : reachBytes < 9223372036854775000 := by decide
  have hat : ∀ {m p : Int} {old : Bool} {s : A} {ds : List Dg} {ib il : Nat} {st : St}, Ck (kq S m p old ig ic s) G W σ0 [] ds ib il st → st[bS]? = some (scs S) := fun {m p old s ds ib il st} k => by
    rw [← hbS]
    refine k.keep.2 bS hb ?_
    simp only [List.mem_cons, List.not_mem_nil, or_false, not_or]
    exact ⟨hbc, hbg⟩
  have hml := hS.mods
  have hll := hS.locks
  have hpl := hS.procs
  have hW1 : mds S <+: W := by rw [hW]; exact List.prefix_append _ _
  obtain ⟨P, hP⟩ : ∃ P, P = mds S ++ lds S := ⟨_, rfl⟩
  have hW2 : mds S ++ lds S <+: W := by rw [hW, ← List.append_assoc]; exact List.prefix_append _ _
  have hW3 : P ++ pds S <+: W := by rw [hP, hW, List.append_assoc]; exact List.prefix_refl _
  refine ac_enterC' [6, 13] mixed Try.func40 rfl Try.ntmps40 (by simp only [go_sem]) fun hbd => ?_
  simp only [List.length_cons, List.length_nil, Nat.reduceAdd, Nat.reduceSub, List.replicate_succ, List.replicate_zero, List.cons_append, List.nil_append]
  refine aw_cut (fun fr st => (∃ m p old ib il, Ck (kq S m p old ig ic (.d .nilm)) G W σ0 [] (mds S) ib il st) ∧ fr = [.ref ic 0, .ref bS 0, .any, .any, .any, .any, .any, .any, .any, .any, .any, .any, .any, .any, .any, .any, .any, .any, .any, .any, .any, .any, .any, .any, .any, .any, .any, .any, .any, .any, .any, .any, .any, .any, .any, .any, .any, .any, .any, .any, .any, .any, .any, .any, .any, .any, .any, .any, .any, .any, .any, .any, .any, .any, .any, .any, .any, .any, .any, .any, .any, .any, .any, .any, .any, .any, .any, .any, .any, .any, .any, .any, .any, .any, .any, .any]) ?_ ?_
  · have hb0 := hat hC
    simp only [go_sem, live_of hb0, objK_of hb0, List.length_map, Try.results40]
    refine aw_loop (fun q fr st => ∃ j m p old ib il, j ≤ S.mods.length ∧ q = S.mods.length - j ∧ Ck (kq S m p old ig ic (.d .nilm)) G W σ0 [] ((S.mods.zipIdx.take j).flatMap fun x => contractM S x.2 x.1) ib il st ∧ fr = [.ref ic 0, .ref bS 0, .any, .any, .any, .any, .any, .any, .any, .any, .d (.sl 22 (S.mods.map moD)), dn S.mods.length, dn j, .any, .any, .any, .any, .any, .any, .any, .any, .any, .any, .any, .any, .any, .any, .any, .any, .any, .any, .any, .any, .any, .any, .any, .any, .any, .any, .any, .any, .any, .any, .any, .any, .any, .any, .any, .any, .any, .any, .any, .any, .any, .any, .any, .any, .any, .any, .any, .any, .any, .any, .any, .any, .any, .any, .any, .any, .any, .any, .any, .any, .any, .any, .any]) S.mods.length _ ?_ ?_
    · exact Wk.mask [0, 1, 10, 11, 12] ⟨0, _, _, _, _, _, by omega, by omega, hC, rfl⟩
    clear hb0 hC
    rintro q fr st ⟨j, m, p, old, ib, il, hj, hq, hC, rfl⟩
    rcases Nat.lt_or_ge j S.mods.length with hlt | hge
    · have hd : decide ((j : Int) < (S.mods.length : Int)) = true := by simp; omega
      have w1 := wrapS j (by omega)
      have e1 := mo_get hlt
      have hmok := hS.mo _ (getD_mem mo0 hlt)
      have hmf := hF.mo _ (getD_mem mo0 hlt)
      have htk := zip_take S.mods mo0 (fun x => contractM S x.2 x.1) hlt
      have hWj := (pre_take S.mods.zipIdx (fun x => contractM S x.2 x.1) (j + 1)).trans hW1
      rw [htk] at hWj
      generalize S.mods.getD j mo0 = v at e1 hmok hmf htk hWj
      have hv : moD v = .agg [.str v.name, .str v.owner, iD v.rely.kind, .str v.rely.name, .str v.rely.other, iD v.rely.n, iD v.rely.len, iD v.rely.init, .bool v.rely.ghost, .sl 9 (v.rely.kids.map Nd.d), iD v.rely.pos, iD v.guar.kind, .str v.guar.name, .str v.guar.other, iD v.guar.n, iD v.guar.len, iD v.guar.init, .bool v.guar.ghost, .sl 9 (v.guar.kids.map Nd.d), iD v.guar.pos, .sl 9 (v.frame.map Nd.d), iD v.pos] := rfl
      rw [hv] at e1
      have hc := hC.rd.c
      unfold chk kq at hc
      have hlc := lt_of_some hc
      have h1 := set_same (y := some (.cells (chk S j p (.rs ib 2 0 ([] : Bnd).length (some 110)) old ig (.d .nilm)))) hc
      have h2 := set_same (y := some (.cells (chk S j (-1) (.rs ib 2 0 ([] : Bnd).length (some 110)) old ig (.d .nilm)))) hc
      have h3 := hC.reset j (-1) true (.d .nilm)
      unfold chk at h1 h2
      unfold chk at h3
      simp only [List.length_nil] at h1 h2 h3
      have g1 := lt_of_some h1
      have g2 := lt_of_some h2
      simp only [go_sem, hd, e1, List.length_map, Int.toNat_natCast, live_old hc, objK_old hc, set_old hlc, live_old h1, objK_old h1, live_old h2, objK_old h2, set_old g1, set_old g2, List.length_set, List.set_set, new_live, new_objK, Try.results40]
      refine ⟨⟨by omega, by omega⟩, ?_⟩
      rw [← hv]
      refine ac' (contract_ac (X := kq S j (-1) true ig ic (.d .nilm)) hmok hmf.1 hmf.2 (h3.app _) hWj _ fun r ib2 il2 σ2 q1 q2 => ?_)
      simp only [go_sem, w1, Try.results40]
      refine Wk.mask [0, 1, 10, 11, 12] ⟨S.mods.length - (j + 1), by omega, j + 1, j, -1, true, ib2, il2, by omega, rfl, ?_, rfl⟩
      rw [htk]; exact q1
    · have hd : decide ((j : Int) < (S.mods.length : Int)) = false := by simp; omega
      rw [List.take_of_length_le (by simpa using hge)] at hC
      simp only [go_sem, hd, Try.results40]
      exact Wk.mask [0, 1] ⟨⟨_, _, _, _, _, hC⟩, rfl⟩
  clear hC
  rintro fr st ⟨⟨m, p, old, ib, il, hC⟩, rfl⟩
  have hc := hC.rd.c
  unfold chk kq at hc
  have hlc := lt_of_some hc
  have h3 := hC.reset m p false (.d .nilm)
  have hb0 := hat h3
  unfold chk at h3
  unfold chk at hb0
  simp only [List.length_nil] at h3 hb0
  simp only [go_sem, live_of hc, objK_of hc, Try.results40]
  refine aw_cut (fun fr st => (∃ m p ib il, Ck (kq S m p false ig ic (.d .nilm)) G W σ0 [] P ib il st) ∧ fr = [.ref ic 0, .ref bS 0, .any, .any, .any, .any, .any, .any, .any, .any, .any, .any, .any, .any, .any, .any, .any, .any, .any, .any, .any, .any, .any, .any, .any, .any, .any, .any, .any, .any, .any, .any, .any, .any, .any, .any, .any, .any, .any, .any, .any, .any, .any, .any, .any, .any, .any, .any, .any, .any, .any, .any, .any, .any, .any, .any, .any, .any, .any, .any, .any, .any, .any, .any, .any, .any, .any, .any, .any, .any, .any, .any, .any, .any, .any, .any]) ?_ ?_
  · simp only [go_sem, live_of hc, objK_of hc, live_of hb0, objK_of hb0, List.length_map, Try.results40]
    refine aw_loop (fun q fr st => ∃ j m p ib il, j ≤ S.locks.length ∧ q = S.locks.length - j ∧ Ck (kq S m p false ig ic (.d .nilm)) G W σ0 [] (mds S ++ (S.locks.take j).flatMap (lockM S)) ib il st ∧ fr = [.ref ic 0, .ref bS 0, .any, .any, .any, .any, .any, .any, .any, .any, .any, .any, .any, .any, .any, .any, .any, .any, .any, .any, .any, .any, .any, .any, .any, .any, .any, .any, .any, .any, .any, .any, .any, .any, .any, .d (.sl 12 (S.locks.map lkD)), dn S.locks.length, dn j, .any, .any, .any, .any, .any, .any, .any, .any, .any, .any, .any, .any, .any, .any, .any, .any, .any, .any, .any, .any, .any, .any, .any, .any, .any, .any, .any, .any, .any, .any, .any, .any, .any, .any, .any, .any, .any, .any]) S.locks.length _ ?_ ?_
    · exact Wk.mask [0, 1, 35, 36, 37] ⟨0, m, p, ib, il, by omega, by omega, by simpa using h3, rfl⟩
    clear hb0 hC hc h3 hlc
    rintro q fr st ⟨j, m, p, ib, il, hj, hq, hC, rfl⟩
    rcases Nat.lt_or_ge j S.locks.length with hlt | hge
    · have hd : decide ((j : Int) < (S.locks.length : Int)) = true := by simp; omega
      have w1 := wrapS j (by omega)
      have e1 := lk_d hlt
      have hmok := hS.lo _ (getD_mem lk0 hlt)
      have hmf := hF.lo _ (getD_mem lk0 hlt)
      have htk : (S.locks.take (j + 1)).flatMap (lockM S) = (S.locks.take j).flatMap (lockM S) ++ lockM S (S.locks.getD j lk0) := by
        rw [take_getD lk0 hlt, List.flatMap_append]; simp
      have hWj := pre_app (pre_take S.locks (lockM S) (j + 1)) hW2
      rw [htk] at hWj
      generalize S.locks.getD j lk0 = v at e1 hmok hmf htk hWj
      have hv : lkD v = .agg [.str v.name, iD v.mod, iD v.inv.kind, .str v.inv.name, .str v.inv.other, iD v.inv.n, iD v.inv.len, iD v.inv.init, .bool v.inv.ghost, .sl 9 (v.inv.kids.map Nd.d), iD v.inv.pos, iD v.pos] := rfl
      rw [hv] at e1
      have hc := hC.rd.c
      unfold chk kq at hc
      have hlc := lt_of_some hc
      have h1 := set_same (y := some (.cells (chk S v.mod p (.rs ib 2 0 ([] : Bnd).length (some 110)) false ig (.d .nilm)))) hc
      have h3 := hC.reset v.mod (-1) false (.d .nilm)
      unfold chk at h1
      unfold chk at h3
      simp only [List.length_nil] at h1 h3
      have g1 := lt_of_some h1
      simp only [go_sem, hd, e1, List.length_map, Int.toNat_natCast, live_old hc, objK_old hc, set_old hlc, live_old h1, objK_old h1, set_old g1, List.length_set, List.set_set, new_live, new_objK, Try.results40]
      refine ⟨⟨by omega, by omega⟩, ?_⟩
      rw [← Nd.d_eq v.inv]
      refine ac' (truth_ac (X := kq S v.mod (-1) false ig ic (.d .nilm)) hmok hmf (h3.app _) (by rw [List.append_assoc]; exact hWj) _ fun r ib2 il2 σ2 q1 q2 => ?_)
      simp only [go_sem, w1, Try.results40]
      refine Wk.mask [0, 1, 35, 36, 37] ⟨S.locks.length - (j + 1), by omega, j + 1, v.mod, -1, ib2, il2, by omega, rfl, ?_, rfl⟩
      rw [htk, ← List.append_assoc]; exact q1
    · have hd : decide ((j : Int) < (S.locks.length : Int)) = false := by simp; omega
      rw [List.take_of_length_le hge] at hC
      simp only [go_sem, hd, Try.results40]
      rw [hP]
      exact Wk.mask [0, 1] ⟨⟨_, _, _, _, hC⟩, rfl⟩
  clear hb0 hC hc h3 hlc
  rintro fr st ⟨⟨m, p, ib, il, hC⟩, rfl⟩
  have hb0 := hat hC
  simp only [go_sem, live_of hb0, objK_of hb0, List.length_map, Try.results40]
  refine aw_loop (fun q fr st => ∃ j m p s ib il, j ≤ S.procs.length ∧ q = S.procs.length - j ∧ Ck (kq S m p false ig ic s) G W σ0 [] (P ++ (S.procs.zipIdx.take j).flatMap fun x => procM S x.2 x.1) ib il st ∧ StMap s st ∧ fr = [.ref ic 0, .ref bS 0, .any, .any, .any, .any, .any, .any, .any, .any, .any, .any, .any, .any, .any, .any, .any, .any, .any, .any, .any, .any, .any, .any, .any, .any, .any, .any, .any, .any, .any, .any, .any, .any, .any, .any, .any, .any, .any, .any, .any, .any, .any, .any, .any, .any, .any, .any, .any, .any, .any, .any, .any, .any, .any, .d (.sl 16 (S.procs.map prD)), dn S.procs.length, dn j, .any, .any, .any, .any, .any, .any, .any, .any, .any, .any, .any, .any, .any, .any, .any, .any, .any, .any]) S.procs.length _ ?_ ?_
  · exact Wk.mask [0, 1, 55, 56, 57] ⟨0, m, p, .d .nilm, ib, il, by omega, by omega, by simpa using hC, .inl rfl, rfl⟩
  clear hb0 hC
  rintro q fr st ⟨j, m, p, s, ib, il, hj, hq, hC, hs, rfl⟩
  rcases Nat.lt_or_ge j S.procs.length with hlt | hge
  · have hd : decide ((j : Int) < (S.procs.length : Int)) = true := by simp; omega
    have w1 := wrapS j (by omega)
    have e1 := pr_d hlt
    have hmok := (hS.pr _ (getD_mem pr0 hlt)).body
    have hmf := hF.pr _ (getD_mem pr0 hlt)
    have hin : inMods S (S.procs.getD j pr0).mod = true := by
      unfold usableM at hu
      simp only [Bool.and_eq_true, List.all_eq_true] at hu
      exact (hu.1.2 _ (getD_mem pr0 hlt)).1.1
    have htk := zip_take S.procs pr0 (fun x => procM S x.2 x.1) hlt
    have hWj := pre_app (pre_take S.procs.zipIdx (fun x => procM S x.2 x.1) (j + 1)) hW3
    rw [htk] at hWj
    generalize S.procs.getD j pr0 = v at e1 hmok hmf htk hWj hin
    have hv : prD v = .agg [.str v.name, iD v.mod, vrsD v.params, vrsD v.locals, .str v.locked, iD v.body.kind, .str v.body.name, .str v.body.other, iD v.body.n, iD v.body.len, iD v.body.init, .bool v.body.ghost, .sl 9 (v.body.kids.map Nd.d), iD v.body.pos, isD v.calls, iD v.pos] := rfl
    rw [hv] at e1
    simp only [vrsD, isD] at e1
    have hc := hC.rd.c
    unfold chk kq at hc
    have hlc := lt_of_some hc
    have h1 := set_same (y := some (.cells (chk S v.mod p (.rs ib 2 0 ([] : Bnd).length (some 110)) false ig s))) hc
    have h3 := hC.reset v.mod j false s
    have hs3 : StMap s (st.set ic (some (.cells (chk S v.mod j (.rs ib 2 0 ([] : Bnd).length (some 110)) false ig s)))) := by
      rcases hs with h | ⟨im, h, him⟩
      · exact .inl h
      · refine .inr ⟨im, h, ?_⟩
        rw [set_other (fun e => by rw [← e, hc] at him; cases him)]; exact him
    unfold chk at h1 hs3
    unfold chk at h3
    simp only [List.length_nil] at h1 h3 hs3
    have g1 := lt_of_some h1
    simp only [go_sem, hd, e1, List.length_map, Int.toNat_natCast, live_old hc, objK_old hc, set_old hlc, live_old h1, objK_old h1, set_old g1, List.length_set, List.set_set, new_live, new_objK, Try.results40]
    refine ⟨⟨by omega, by omega⟩, ?_⟩
    rw [← Nd.d_eq v.body]
    refine ac' (st_ac (X := kq S v.mod j false ig ic s) hin v.body hmok hmf s _ _ _ _ (h3.app _) ?_ (by rw [List.append_assoc]; exact hWj) _ fun r s2 ib2 il2 σ2 q1 q2 q3 => ?_)
    · exact StMap.app hs3 _
    simp only [go_sem, w1, Try.results40]
    refine Wk.mask [0, 1, 55, 56, 57] ⟨S.procs.length - (j + 1), by omega, j + 1, v.mod, j, s2, ib2, il2, by omega, rfl, ?_, q2, rfl⟩
    rw [htk, ← List.append_assoc]; exact q1
  · have hd : decide ((j : Int) < (S.procs.length : Int)) = false := by simp; omega
    rw [List.take_of_length_le (by simpa using hge)] at hC
    simp only [go_sem, hd, Try.results40]
    refine ⟨_, _, Weak.refl _ _ _ _, h _ _ ⟨m, p, false, s, ib, il, ?_, hs⟩⟩
    have e : P ++ S.procs.zipIdx.flatMap (fun x => procM S x.2 x.1) = W := by rw [hW, hP, List.append_assoc]; rfl
    rw [e] at hC; exact hC
end
theorem sto_ck {S : Sy} (hS : S.Ok) (hu : usableM S = true) (σ : St) (G : Glob) (W : List Dg)
    (hpan : 20 ≤ W.length → ∀ s il', Keeps [] σ s → s[σ.length + 1]? = some (some (.cells [.rs il' 2 0 20 (some 75)])) → s[il']? = some (some (.cells (dcs (W.take 20)))) → σ.length ≤ il' → G.pan fullA s) :
    Ck (kq S 0 (-1) false (σ.length + 1) (σ.length + 2) (.d .nilm)) G W σ [] [] (σ.length + 4) (σ.length + 3) (sto S σ) := by
  have hat : ∀ (i : Nat) (o : Option Ob), ([some (.cells [.d (.sl 22 (S.mods.map moD)), .d (vrsD S.vars), .d (.sl 12 (S.locks.map lkD)), .d (.sl 16 (S.procs.map prD)), .d (.sl 5 (S.threads.map thD))]), some (.cells [.rs (σ.length + 3) 2 0 0 (some 75)]),
    some (.cells (chk S 0 (-1) (.rs (σ.length + 4) 2 0 0 (some 110)) false (σ.length + 1) (.d .nilm))), some (.cells []), some (.cells [])] : St)[i]? = some o → (sto S σ)[σ.length + i]? = some o := fun i o h => by
    unfold sto; rw [List.getElem?_append_right (by omega), Nat.add_sub_cancel_left]; exact h
  have hk : ∀ s, Keeps [(kq S 0 (-1) false (σ.length + 1) (σ.length + 2) (.d .nilm)).ic, (kq S 0 (-1) false (σ.length + 1) (σ.length + 2) (.d .nilm)).ig] σ s → Keeps [] σ s := fun s hs => ⟨hs.1, fun id hid _ => hs.2 id hid (by
    simp only [kq, List.mem_cons, List.not_mem_nil, or_false, not_or]
    omega)⟩
  refine ⟨⟨hS, hu, trivial, hat 2 _ rfl, hat 4 _ rfl, by simp, fun b hb => by cases hb⟩, hat 1 _ rfl, hat 3 _ rfl, by simp, by simp [kq], by simp [kq], by simp [kq], by simp [kq], by simp [kq], by omega, by omega, by omega, ?_, fun hW s il' h1 h2 h3 h4 => hpan hW s il' (hk s h1) h2 h3 h4⟩
  exact ⟨by simp [sto], fun id hid _ => by unfold sto; rw [List.getElem?_append_left hid]⟩
set_option maxHeartbeats 8000000 in
theorem checkF_ac {S : Sy} (hS : S.Ok) (hF : S.Fit) (σ : St) (G : Glob) (R : A → St → Prop) (h : R (.d (dgsD (checkR S))) σ) : AC Try.prog G 17 [.d (syD S)] σ R := by
  have hsy : syD S = .agg [.sl 22 (S.mods.map moD), vrsD S.vars, .sl 12 (S.locks.map lkD), .sl 16 (S.procs.map prD), .sl 5 (S.threads.map thD)] := rfl
  rw [hsy]
  refine ac_enter mixed Try.func17 rfl Try.ntmps17 (by simp only [go_sem]) fun hbd => ?_
  simp only [List.length_cons, List.length_nil, Nat.reduceAdd, Nat.reduceSub, List.replicate_succ, List.replicate_zero, List.cons_append, List.nil_append]
  simp only [go_sem, Try.results17]
  rw [← hsy]
  refine ac' (usable_ac S hS _ _ _ ?_)
  cases hu : usableM S with
  | false =>
    have e : checkR S = [⟨1, 0⟩] := by unfold checkR; rw [hu]; rfl
    rw [e] at h
    simp only [go_sem, Try.results17]
    refine ret_frz 1 2 0 [.agg [iD 1, iD 0]] rfl (lies_of fun x hx => ?_) ?_
    · simp only [List.mem_cons, List.not_mem_nil, or_false] at hx
      subst hx
      refine ⟨rfl, fun y hy => ?_⟩
      simp only [D.cells, List.mem_cons, List.not_mem_nil, or_false] at hy
      rcases hy with rfl | rfl <;> rfl
    · have := ret_bd (G := G) (junk := [scs S, none]) (x := .d (dgsD [⟨1, 0⟩])) hbd rfl h
      simpa [A.frz, frzL, dgsD, dgD] using this
  | true =>
    have e : checkR S = (wholeM S).take 20 := by unfold checkR; rw [hu]; rfl
    rw [e] at h
    simp only [go_sem, Try.results17]
    rw [← hsy]
    refine ac' (collect_ac S 40 _ (fun _ _ => trivial) (wholeM S) _ (σ ++ [scs S]) rfl ?_ G (fun G' hG' hpan R'' hR'' => ?_) _ ?_)
    · refine (hbd.mono (by simp)).append fun o ho => ?_
      simp only [List.mem_cons, List.not_mem_nil, or_false] at ho
      injection ho with ho
      subst ho; rfl
    · have hck := sto_ck hS hu (σ ++ [scs S]) G' (wholeM S) fun h20 s il' k1 k2 k3 k4 => hpan h20 s il' k1 k2 k3 k4
      refine whole_ac hS hu hF (bS := σ.length) (σ0 := σ ++ [scs S]) (by simp) (by rw [List.getElem?_append_right (Nat.le_refl _), Nat.sub_self]; rfl) (by simp; omega) (by simp; omega) hck rfl _ fun r σ' q => ?_
      obtain ⟨m, p, old, s, ib, il, q1, -⟩ := q
      refine hR'' r σ' il (by simpa using q1.lt) ⟨q1.keep.1, fun id hid _ => q1.keep.2 id hid ?_⟩ (by simpa [kq] using q1.g) q1.l (by simpa using q1.lowl)
      simp only [kq, List.mem_cons, List.not_mem_nil, or_false, not_or]
      omega
    · simp only [go_sem, Try.results17]
      exact ret_bd hbd rfl h
end Go.Proofs.Ytfoblkeefpaceaa
end PartK17

section PartL1
/- The law package: sizes of trees. -/
set_option linter.unusedSimpArgs false
set_option linter.unusedVariables false
set_option maxRecDepth 100000
namespace Go.Proofs.Ytfoblkeefpaceaa
open Go Go.Ab

def sumN (l : List Nd) : Nat := (l.map Nd.nodes).sum
theorem sumN_take {l : List Nd} {j : Nat} (h : j < l.length) : sumN (l.take (j + 1)) = sumN (l.take j) + (l.getD j Nd.none).nodes := by
  unfold sumN
  rw [take_getD Nd.none h]; simp
theorem sumN_le (l : List Nd) (j : Nat) : sumN (l.take j) ≤ sumN l := by
  unfold sumN
  conv => rhs; rw [← List.take_append_drop j l]
  rw [List.map_append, List.sum_append]; omega
theorem nodes_sum (e : Nd) : e.nodes = 1 + sumN e.kids := Nd.nodes_eq e
def FewAt (e : Nd) : Prop := ∀ lim : Int, I64 lim → ∀ (σ : St) (G : Glob) (R : A → St → Prop), R (di (min (e.nodes : Int) (max lim 0))) σ → AC Try.prog G 30 [.d e.d, di lim] σ R
set_option maxHeartbeats 4000000 in
theorem few_step (e : Nd) (hok : e.Ok) (ih : ∀ k ∈ e.kids, FewAt k) : FewAt e := by
  intro lim hlim σ G R h
  have hre : reachBytes < 9223372036854775806 := by decide
  have hl := hok.len
  unfold I64 at hlim
  have hn := nodes_sum e
  rw [Nd.d_eq]
  refine ac_enter mixed Try.func30 rfl Try.ntmps30 (by simp only [go_sem]) fun hbd => ?_
  simp only [List.length_cons, List.length_nil, Nat.reduceAdd, Nat.reduceSub, List.replicate_succ, List.replicate_zero, List.cons_append, List.nil_append]
  simp only [go_sem, Try.results30]
  refine aw_loop (fun m fr st => ∃ j : Nat, j ≤ e.kids.length ∧ m = e.kids.length - j ∧ fr = [.any, di lim, .ref σ.length 0, .any, .any, di (min (1 + (sumN (e.kids.take j) : Int)) (max lim 1)), dn j, .any, .any, .any, .any, .any, .any, .any, .any, .any, .any, .any, .any, .any, .any, .any, .any, .any, .any, .any, .any, .any, .any, .any, .any, .any, .any, .any] ∧ st = σ ++ [ncs e]) e.kids.length _ ?_ ?_
  · refine Wk.mask [1, 2, 5, 6] ⟨0, by omega, by omega, ?_, rfl⟩
    have : (min (1 + (sumN (e.kids.take 0) : Int)) (max lim 1)) = 1 := by simp only [List.take_zero, sumN, List.map_nil, List.sum_nil]; omega
    rw [this]; rfl
  rintro m fr st ⟨j, hj, hm, rfl, rfl⟩
  have hle := sumN_le e.kids j
  obtain ⟨s, hs⟩ : ∃ s, s = sumN (e.kids.take j) := ⟨_, rfl⟩
  obtain ⟨k, hk⟩ : ∃ k, k = min (1 + (s : Int)) (max lim 1) := ⟨_, rfl⟩
  rw [← hs] at hle
  rw [← hs, ← hk]
  have hend : k ≥ lim ∨ e.kids.length ≤ j → R (di (min k (max lim 0))) σ := fun hh => by
    have : min k (max lim 0) = min (e.nodes : Int) (max lim 0) := by
      rcases hh with hh | hh
      · omega
      · rw [List.take_of_length_le hh] at hs
        omega
    rw [this]; exact h
  rcases Nat.lt_or_ge j e.kids.length with hlt | hge
  · have hd : decide ((j : Int) < (e.kids.length : Int)) = true := by simp; omega
    rcases (Decidable.em (k < lim)).imp id (fun h : ¬ k < lim => (by omega : k ≥ lim)) with hkl | hkl
    · have hd2 : decide (k < lim) = true := decide_eq_true hkl
      have e1 := kid_d hlt
      have w1 := wrapS j (by omega)
      have hsn := sumN_take hlt
      rw [← hs] at hsn
      have ihj := ih _ (getD_mem Nd.none hlt)
      have hkd : e.kids.getD j Nd.none = e.kid j := rfl
      rw [hkd] at hsn ihj
      have w2 : IntKind.i64.wrap (lim - k) = lim - k := wrap64_id _ (by omega) (by omega)
      have w3 : IntKind.i64.wrap (k + min ((e.kid j).nodes : Int) (max (lim - k) 0)) = min (1 + (sumN (e.kids.take (j + 1)) : Int)) (max lim 1) := by
        rw [hsn]
        have : k + min ((e.kid j).nodes : Int) (max (lim - k) 0) = min (1 + ((s + (e.kid j).nodes : Nat) : Int)) (max lim 1) := by omega
        rw [this]
        exact wrap64_id _ (by omega) (by omega)
      simp only [go_sem, hd, hd2, e1, w1, w2, Nd.cs, List.length_map, Try.results30]
      rw [← Nd.d_eq (e.kid j)]
      refine ⟨⟨by omega, by omega⟩, ac' (ihj (lim - k) (by unfold I64; omega) _ _ _ ?_)⟩
      simp only [go_sem, w1, w3, Try.results30]
      exact Wk.mask [1, 2, 5, 6] ⟨e.kids.length - (j + 1), by omega, j + 1, by omega, rfl, rfl, rfl⟩
    · have hd2 : decide (k < lim) = false := decide_eq_false (by omega)
      simp only [go_sem, hd, hd2, List.length_map, Try.results30]
      exact ret_bd hbd rfl (hend (.inl hkl))
  · have hd : decide ((j : Int) < (e.kids.length : Int)) = false := by simp; omega
    simp only [go_sem, hd, List.length_map, Try.results30]
    exact ret_bd hbd rfl (hend (.inr hge))
theorem few_ac : ∀ e : Nd, e.Ok → FewAt e := by
  refine Nd.ind (fun _ => few_step _ Nd.none_ok fun k hk => by cases hk) fun e _ hk hok => few_step e hok fun k hm => hk k hm ?_
  cases hok with | mk _ _ _ h => exact h k hm
def smallM (e : Nd) : Bool := decide (e.nodes ≤ 120)
theorem small_ac {e : Nd} (hok : e.Ok) (σ : St) (G : Glob) (R : A → St → Prop) (h : R (db (smallM e)) σ) : AC Try.prog G 11 [.d e.d] σ R := by
  rw [Nd.d_eq]
  refine ac_enter mixed Try.func11 rfl Try.ntmps11 (by simp only [go_sem]) fun hbd => ?_
  simp only [List.length_cons, List.length_nil, Nat.reduceAdd, Nat.reduceSub, List.replicate_succ, List.replicate_zero, List.cons_append, List.nil_append]
  simp only [go_sem, Try.results11]
  rw [← Nd.d_eq]
  refine ac' (few_ac e hok 121 (by unfold I64; omega) _ _ _ ?_)
  have : decide (min (e.nodes : Int) (max 121 0) ≤ 120) = smallM e := by unfold smallM; rw [decide_eq_decide]; omega
  simp only [go_sem, this, Try.results11]
  exact ret_bd hbd rfl h
end Go.Proofs.Ytfoblkeefpaceaa
end PartL1
