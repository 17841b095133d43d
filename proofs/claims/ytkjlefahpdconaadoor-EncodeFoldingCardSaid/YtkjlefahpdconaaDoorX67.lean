import Derived.Test.YtkjlefahpdconaaDoorX66

section PartD2
/- The law package's fixed examples. -/
set_option linter.unusedSimpArgs false
set_option linter.unusedVariables false
set_option maxRecDepth 100000
namespace Go.Proofs.YtkjlefahpdconaaDoor
open Go Go.Ab

def yX : Ex := .mk 2 1 1 []
def zX : Ex := .mk 3 1 1 []
abbrev exA (o w n : Int) (k : List D) : Option Ob := some (.cells [di o, di w, di n, .d (.sl 4 k)])
def emC : List UInt8 := []
abbrev cdA (h g : Ex) : Cnd := ⟨[], 0, 0, 0, 0, 0, h, g⟩
theorem yX_d : yX.d = .agg [iD 2, iD 1, iD 1, .sl 4 []] := by rw [Ex.d_eq]; rfl
theorem zX_d : zX.d = .agg [iD 3, iD 1, iD 1, .sl 4 []] := by rw [Ex.d_eq]; rfl
theorem cs1_d : celsD cs1 = .sl 6 [.agg [.str [120], iD 2, iD 1, iD (-1), .bool false, iD 0], .agg [.str [121], iD 1, iD 0, iD (-1), .bool false, iD 0]] := rfl
def oX : Ex := .mk 1 1 0 []
theorem oX_d : oX.d = .agg [iD 1, iD 1, iD 0, .sl 4 []] := by rw [Ex.d_eq]; rfl
theorem neg1 : negR cs1 (cdA yX oX) = (⟨2, [[1], [2]]⟩, 0) := by kernel_rfl
theorem enc1 : encR cs1 (cdA yX oX) = true := by kernel_rfl
theorem ok0 (o w n : Int) : (Ex.mk o w n []).Ok := .mk (by simp [Ex.kids]) (by simp [Ex.kids])
theorem ok1 (o w n : Int) {k : Ex} (h : k.Ok) : (Ex.mk o w n [k]).Ok := .mk (by simp [Ex.kids, reachBytes]) (by simp [Ex.kids, h])
theorem ok2 (o w n : Int) {k l : Ex} (h : k.Ok) (h' : l.Ok) : (Ex.mk o w n [k, l]).Ok := .mk (by simp [Ex.kids, reachBytes]) (by simp [Ex.kids, h, h'])
def c2 : Cnd := cdA (.mk 4 1 0 [zX]) yX
abbrev oc2 : Option Ob := some (.cells [.d (.str []), di 0, di 0, di 0, di 0, di 0, di 4, di 1, di 0, .d (.sl 4 [.agg [iD 3, iD 1, iD 1, .sl 4 []]]), di 2, di 1, di 1, .d (.sl 4 [])])
def F2 : List (List Int) := [[1], [-4, -2], [-4, -3], [4, 2, 3], [4]]
abbrev oc3 : Option Ob := some (.cells [di 4, .d (clsD F2)])
theorem neg2 : negR cs1 c2 = (⟨4, F2⟩, 0) := by kernel_rfl
theorem enc2 : encR cs1 c2 = true := by kernel_rfl
theorem ok2c : c2.Ok := ⟨ok1 _ _ _ (ok0 _ _ _), ok0 _ _ _⟩
theorem c2_d : cndD c2 = .agg [.str [], iD 0, iD 0, iD 0, iD 0, iD 0, iD 4, iD 1, iD 0, .sl 4 [.agg [iD 3, iD 1, iD 1, .sl 4 []]], iD 2, iD 1, iD 1, .sl 4 []] := by
  rw [← zX_d]; rfl
def V2 : List Bool := [true, false, true, false]
theorem ext2 : extR cs1 c2 [0, 0] [0, 1] = (V2, 0) := by kernel_rfl
theorem dec2 : (A.tup [dL (decS cs1 (lO cs1 c2.hyp c2.goal) [true, true, false, false]), dL (decS cs1 (lN cs1 c2.hyp c2.goal) [true, true, false, false])]) = .tup [dL [1, 1], dL [1, 0]] := by
  rw [show decS cs1 (lO cs1 c2.hyp c2.goal) [true, true, false, false] = [1, 1] by kernel_rfl, show decS cs1 (lN cs1 c2.hyp c2.goal) [true, true, false, false] = [1, 0] by kernel_rfl]
theorem lay2 : (A.tup [dL (lO cs1 c2.hyp c2.goal), dL (lN cs1 c2.hyp c2.goal)]) = .tup [dL [0, 2], dL [0, 3]] := by
  rw [show lO cs1 c2.hyp c2.goal = [0, 2] by kernel_rfl, show lN cs1 c2.hyp c2.goal = [0, 3] by kernel_rfl]
def eqX : Ex := .mk 11 1 0 [.mk 3 2 0 [], .mk 2 2 0 []]
def eqK : List D := [.agg [iD 3, iD 2, iD 0, .sl 4 []], .agg [iD 2, iD 2, iD 0, .sl 4 []]]
theorem eqX_d : eqX.d = .agg [iD 11, iD 1, iD 0, .sl 4 eqK] := by
  simp only [eqX, eqK, Ex.d, Ex.ds]
abbrev oeq : Option Ob := exA 11 1 0 eqK
def F3 : List (List Int) := [[1], [-6, 2, 4], [-6, -2, -4], [6, -2, 4], [6, 2, -4], [-7, 3, 5], [-7, -3, -5], [7, -3, 5], [7, 3, -5], [-8, -6], [-8, -7], [8, 6, 7], [-8]]
def c3 : Cnd := cdA (.mk 1 1 1 []) eqX
theorem neg3 : negR cs1 c3 = (⟨8, F3⟩, 0) := by kernel_rfl
theorem enc3 : encR cs1 c3 = true := by kernel_rfl
theorem eqX_ok : eqX.Ok := ok2 _ _ _ (ok0 _ _ _) (ok0 _ _ _)
theorem ok3c : c3.Ok := ⟨ok0 _ _ _, eqX_ok⟩
theorem c3_d : cndD c3 = .agg [.str [], iD 0, iD 0, iD 0, iD 0, iD 0, iD 1, iD 1, iD 1, .sl 4 [], iD 11, iD 1, iD 0, .sl 4 eqK] := by
  have : eqX.kids.map Ex.d = eqK := by simp only [eqX, eqK, Ex.kids, Ex.d, Ex.ds, List.map_cons, List.map_nil]
  rw [← this]; rfl
def c4 : Cnd := cdA eqX (.mk 3 2 0 [])
theorem ok4c : c4.Ok := ⟨eqX_ok, ok0 _ _ _⟩
theorem c4_d : cndD c4 = .agg [.str [], iD 0, iD 0, iD 0, iD 0, iD 0, iD 11, iD 1, iD 0, .sl 4 eqK, iD 3, iD 2, iD 0, .sl 4 []] := by
  have : eqX.kids.map Ex.d = eqK := by simp only [eqX, eqK, Ex.kids, Ex.d, Ex.ds, List.map_cons, List.map_nil]
  rw [← this]; rfl
abbrev oc5 : Option Ob := some (.cells [di 8, .d (clsD F3)])
theorem oneX_d : (Ex.mk 1 1 1 []).d = .agg [iD 1, iD 1, iD 1, .sl 4 []] := by rw [Ex.d_eq]; rfl
theorem old2_d : (Ex.mk 3 2 0 []).d = .agg [iD 3, iD 2, iD 0, .sl 4 []] := by rw [Ex.d_eq]; rfl
set_option maxHeartbeats 40000000 in
theorem head_ac (σ : St) (G : Glob) (hG : G.g 0 = some masksD) (R : A → St → Prop) (h : R (db true) σ) : AC Tryd.prog G 9 [] σ R := by
  refine ac_enterC' [2, 3, 4, 5, 6, 7, 8, 9, 10, 11, 12, 13, 14, 15, 16, 17, 18] mixed Tryd.func9 rfl Tryd.ntmps9 (by simp only [go_sem]) fun hbd => ?_
  simp only [List.length_cons, List.length_nil, Nat.reduceAdd, Nat.reduceSub, List.replicate_succ, List.replicate_zero, List.cons_append, List.nil_append]
  simp only [go_sem]
  refine aw_cut (fun fr st => fr = [db false, .d (celsD cs1), .any, .any, .any, .any, .any, .any, .any, .any, .any, .any, .any, .any, .any, .any, .any, .any, .any, .any, .any, .any, .any, .any, .any, .any, .any, .any, .any, .any, .any, .any, .any, .any, .any, .any, .any, .any, .any, .any, .any, .any, .any, .any, .any, .any, .any, .any, .any, .any, .any, .any, .any, .any, .any, .any, .any, .any, .any, .any, .any, .any, .any, .any, .any, .any, .any, .any, .any, .any, .any, .any, .any, .any, .any, .any, .any, .any, .any, .any, .any, .any, .any, .any, .any, .any, .any, .any, .any, .any, .any, .any, .any, .any, .any, .any, .any, .any, .any, .any, .any, .any, .any, .any, .any, .any, .any, .any, .any, .any, .any, .any, .any, .any, .any, .any, .any, .any, .any, .any, .any, .any, .any, .any, .any, .any, .any, .any, .any, .any, .any, .any, .any, .any, .any, .any, .any, .any, .any, .any, .any, .any, .any, .any, .any, .any, .any, .any, .any, .any, .any, .any, .any, .any, .any, .any, .any, .any, .any, .any, .any, .any, .any, .any, .any, .any, .any, .any, .any, .any, .any, .any, .any, .any, .any, .any, .any, .any, .any, .any, .any, .any, .any, .any, .any, .any, .any, .any, .any, .any, .any, .any, .any, .any, .any, .any, .any, .any, .any, .any, .any, .any, .any, .any, .any, .any, .any, .any, .any, .any, .any, .any, .any, .any, .any, .any, .any, .any, .any, .any, .any, .any] ∧ st = σ) ?_ ?_
  · simp only [go_sem]
    refine Wk.pre [0, 1] ?_
    refine Wk.deep [0] 6 ?_
    simp only [go_sem]
    exact Wk.keep [0, 1] [] (by decide) (Nat.le_refl _) hbd ⟨rfl, by simp only [go_sem]⟩
  rintro fr st ⟨rfl, rfl⟩
  refine aw_cut (fun fr s2 => fr = [db false, .d (celsD cs1), .ref st.length 0, .ref (st.length + 1) 0, .any, .any, .any, .any, .any, .any, .any, .any, .any, .any, .any, .any, .any, .any, .any, .any, .any, .any, .any, .any, .any, .any, .any, .any, .any, .any, .any, .any, .any, .any, .any, .any, .any, .any, .any, .any, .any, .any, .any, .any, .any, .any, .any, .any, .any, .any, .any, .any, .any, .any, .any, .any, .any, .any, .any, .any, .any, .any, .any, .any, .any, .any, .any, .any, .any, .any, .any, .any, .any, .any, .any, .any, .any, .any, .any, .any, .any, .any, .any, .any, .any, .any, .any, .any, .any, .any, .any, .any, .any, .any, .any, .any, .any, .any, .any, .any, .any, .any, .any, .any, .any, .any, .any, .any, .any, .any, .any, .any, .any, .any, .any, .any, .any, .any, .any, .any, .any, .any, .any, .any, .any, .any, .any, .any, .any, .any, .any, .any, .any, .any, .any, .any, .any, .any, .any, .any, .any, .any, .any, .any, .any, .any, .any, .any, .any, .any, .any, .any, .any, .any, .any, .any, .any, .any, .any, .any, .any, .any, .any, .any, .any, .any, .any, .any, .any, .any, .any, .any, .any, .any, .any, .any, .any, .any, .any, .any, .any, .any, .any, .any, .any, .any, .any, .any, .any, .any, .any, .any, .any, .any, .any, .any, .any, .any, .any, .any, .any, .any, .any, .any, .any, .any, .any, .any, .any, .any, .any, .any, .any, .any, .any, .any, .any, .any, .any, .any, .any, .any] ∧ s2 = st ++ [exA 2 1 1 [], exA 3 1 1 []]) ?_ ?_
  · simp only [go_sem]
    refine ac' (cell_ac _ _ _ _ _ ?_)
    rw [show Ex.mk 2 1 1 [] = yX from rfl, yX_d]
    simp only [go_sem, Tryd.results9]
    refine ac' (old_ac _ _ _ _ _ ?_)
    rw [show Ex.mk 3 1 1 [] = zX from rfl, zX_d]
    simp only [go_sem, Tryd.results9]
    exact Wk.mask [0, 1, 2, 3] ⟨rfl, rfl⟩
  rintro fr st' ⟨rfl, rfl⟩
  refine aw_cut (fun fr s2 => fr = [db false, .d (celsD cs1), .ref st.length 0, .ref (st.length + 1) 0, .ref (st.length + 2) 0, di 0, .any, .any, .any, .any, .any, .any, .any, .any, .any, .any, .any, .any, .any, .any, .any, .any, .any, .any, .any, .any, .any, .any, .any, .any, .any, .any, .any, .any, .any, .any, .any, .any, .any, .any, .any, .any, .any, .any, .any, .any, .any, .any, .any, .any, .any, .any, .any, .any, .any, .any, .any, .any, .any, .any, .any, .any, .any, .any, .any, .any, .any, .any, .any, .any, .any, .any, .any, .any, .any, .any, .any, .any, .any, .any, .any, .any, .any, .any, .any, .any, .any, .any, .any, .any, .any, .any, .any, .any, .any, .any, .any, .any, .any, .any, .any, .any, .any, .any, .any, .any, .any, .any, .any, .any, .any, .any, .any, .any, .any, .any, .any, .any, .any, .any, .any, .any, .any, .any, .any, .any, .any, .any, .any, .any, .any, .any, .any, .any, .any, .any, .any, .any, .any, .any, .any, .any, .any, .any, .any, .any, .any, .any, .any, .any, .any, .any, .any, .any, .any, .any, .any, .any, .any, .any, .any, .any, .any, .any, .any, .any, .any, .any, .any, .any, .any, .any, .any, .any, .any, .any, .any, .any, .any, .any, .any, .any, .any, .any, .any, .any, .any, .any, .any, .any, .any, .any, .any, .any, .any, .any, .any, .any, .any, .any, .any, .any, .any, .any, .any, .any, .any, .any, .any, .any, .any, .any, .any, .any, .any, .any, .any, .any, .any, .any, .any, .any] ∧ s2 = st ++ [exA 2 1 1 [], exA 3 1 1 [], some (.cells [di 2, .d (clsD [[1], [2]])])]) ?_ ?_
  · simp only [go_sem]
    refine aw_plan (.take 0 <| .pure 2 <| .take 1 <| .take 3 <| .alt 4 (.tk 6 5 <| .done) <| .alt 8 (.tk 4 4 <| .tk 2 9 <| .done) <| .stop) (by kernel_rfl) ?_
    simp only [go_sem]
    refine exP (.d oX.d) ⟨fun σ' => ac' (const_ac _ _ _ _ _ ⟨rfl, rfl⟩), ?_⟩
    rw [oX_d]
    simp only [go_sem, Tryd.results9]
    refine ⟨?_, ?_⟩
    · refine ac' (neg_ac cs1 (cdA yX oX) ⟨ok0 _ _ _, ok0 _ _ _⟩ enc1 _ _ hG _ ?_)
      rw [neg1]
      simp only [cnfD, go_sem, Tryd.results9]
      exact Wk.mask [0, 1, 2, 3, 4, 5] ⟨rfl, rfl⟩
    · refine ac' (neg_ac cs1 (cdA yX oX) ⟨ok0 _ _ _, ok0 _ _ _⟩ enc1 _ _ hG _ ?_)
      rw [neg1]
      simp only [cnfD, go_sem, Tryd.results9]
      exact Wk.mask [0, 1, 2, 3, 4, 5] ⟨rfl, rfl⟩
  rintro fr st' ⟨rfl, rfl⟩
  refine aw_cut (fun fr s2 => fr = [db false, .d (celsD cs1), .ref st.length 0, .ref (st.length + 1) 0, .ref (st.length + 2) 0, di 0, db true, .any, .any, .any, .any, .any, .any, .any, .any, .any, .any, .any, .any, .any, .any, .any, .any, .any, .any, .any, .any, .any, .any, .any, .any, .any, .any, .any, .any, .any, .any, .any, .any, .any, .any, .any, .any, .any, .any, .any, .any, .any, .any, .any, .any, .any, .any, .any, .any, .any, .any, .any, .any, .any, .any, .any, .any, .any, .any, .any, .any, .any, .any, .any, .any, .any, .any, .any, .any, .any, .any, .any, .any, .any, .any, .any, .any, .any, .any, .any, .any, .any, .any, .any, .any, .any, .any, .any, .any, .any, .any, .any, .any, .any, .any, .any, .any, .any, .any, .any, .any, .any, .any, .any, .any, .any, .any, .any, .any, .any, .any, .any, .any, .any, .any, .any, .any, .any, .any, .any, .any, .any, .any, .any, .any, .any, .any, .any, .any, .any, .any, .any, .any, .any, .any, .any, .any, .any, .any, .any, .any, .any, .any, .any, .any, .any, .any, .any, .any, .any, .any, .any, .any, .any, .any, .any, .any, .any, .any, .any, .any, .any, .any, .any, .any, .any, .any, .any, .any, .any, .any, .any, .any, .any, .any, .any, .any, .any, .any, .any, .any, .any, .any, .any, .any, .any, .any, .any, .any, .any, .any, .any, .any, .any, .any, .any, .any, .any, .any, .any, .any, .any, .any, .any, .any, .any, .any, .any, .any, .any, .any, .any, .any, .any, .any, .any] ∧ s2 = st ++ [exA 2 1 1 [], exA 3 1 1 [], some (.cells [di 2, .d (clsD [[1], [2]])])]) ?_ ?_
  · simp only [go_sem, Int.reduceBEq]
    refine exs ⟨fun _ => ?_, fun h => Bool.noConfusion h⟩
    simp only [go_sem]
    refine ac' (ac_weak (Weak.deep [3, 4, 5] 6) ?_)
    simp only [go_sem]
    refine same_ac ⟨2, [[1], [2]]⟩ ⟨2, [[1], [2]]⟩ (by decide) (by decide) (by decide) (by decide) _ _ _ ?_
    simp only [go_sem, and_self, decide_true, Tryd.results9]
    refine Wk.pre [0, 1, 2, 3, 4, 5, 6] ?_
    exact Wk.keep [0, 1, 2, 3, 4, 5, 6] [0, 1, 2] (by decide) (Nat.le_refl _) hbd ⟨by simp only [go_sem, Int.reduceBEq], by simp only [go_sem]⟩
  rintro fr st' ⟨rfl, rfl⟩
  refine aw_cut (fun fr s2 => fr = [db false, .d (celsD cs1), .ref st.length 0, .ref (st.length + 1) 0, .ref (st.length + 2) 0, di 0, db true, .ref (st.length + 3) 0, .any, .any, .any, .any, .any, .any, .any, .any, .any, .any, .any, .any, .any, .any, .any, .any, .any, .any, .any, .any, .any, .any, .any, .any, .any, .any, .any, .any, .any, .any, .any, .any, .any, .any, .any, .any, .any, .any, .any, .any, .any, .any, .any, .any, .any, .any, .any, .any, .any, .any, .any, .any, .any, .any, .any, .any, .any, .any, .any, .any, .any, .any, .any, .any, .any, .any, .any, .any, .any, .any, .any, .any, .any, .any, .any, .any, .any, .any, .any, .any, .any, .any, .any, .any, .any, .any, .any, .any, .any, .any, .any, .any, .any, .any, .any, .any, .any, .any, .any, .any, .any, .any, .any, .any, .any, .any, .any, .any, .any, .any, .any, .any, .any, .any, .any, .any, .any, .any, .any, .any, .any, .any, .any, .any, .any, .any, .any, .any, .any, .any, .any, .any, .any, .any, .any, .any, .any, .any, .any, .any, .any, .any, .any, .any, .any, .any, .any, .any, .any, .any, .any, .any, .any, .any, .any, .any, .any, .any, .any, .any, .any, .any, .any, .any, .any, .any, .any, .any, .any, .any, .any, .any, .any, .any, .any, .any, .any, .any, .any, .any, .any, .any, .any, .any, .any, .any, .any, .any, .any, .any, .any, .any, .any, .any, .any, .any, .any, .any, .any, .any, .any, .any, .any, .any, .any, .any, .any, .any, .any, .any, .any, .any, .any, .any] ∧ s2 = st ++ [exA 2 1 1 [], exA 3 1 1 [], some (.cells [di 2, .d (clsD [[1], [2]])]), oc2]) ?_ ?_
  · simp only [go_sem]
    refine Wk.pre [0, 1, 2, 3, 4, 5, 6, 7] ?_
    refine Wk.deep [3] 6 ?_
    simp only [go_sem]
    exact Wk.keep [0, 1, 2, 3, 4, 5, 6, 7] [0, 1, 2, 4] (by decide) (Nat.le_refl _) hbd ⟨by simp only [go_sem, Int.reduceBEq], by simp only [go_sem]⟩
  rintro fr st' ⟨rfl, rfl⟩
  refine aw_cut (fun fr s2 => fr = [db false, .d (celsD cs1), .ref st.length 0, .ref (st.length + 1) 0, .ref (st.length + 2) 0, di 0, db true, .ref (st.length + 3) 0, .any, .any, .any, .any, .any, .any, .any, .any, .any, .any, .any, .any, .any, .any, .any, .any, .any, .any, .any, .any, .any, .any, .any, .any, .any, .any, .any, .any, .any, .any, .any, .any, .any, .any, .any, .any, .any, .any, .any, .any, .any, .any, .any, .any, .any, .any, .any, .any, .any, .any, .any, .any, .any, .any, .any, .any, .any, .any, .any, .any, .any, .any, .any, .any, .any, .any, .any, .any, .any, .any, .any, .any, .any, .any, .any, .any, .any, .any, .any, .any, .any, .any, .any, .any, .any, .any, .any, .any, .any, .any, .any, .any, .any, .any, .any, .any, .any, .any, .any, .any, .any, .any, .any, .any, .any, .any, .any, .any, .any, .any, .any, .any, .any, .any, .any, .any, .any, .any, .any, .any, .any, .any, .any, .any, .any, .any, .any, .any, .any, .any, .any, .any, .any, .any, .any, .any, .any, .any, .any, .any, .any, .any, .any, .any, .any, .any, .any, .any, .any, .any, .any, .any, .any, .any, .any, .any, .any, .any, .any, .any, .any, .any, .any, .any, .any, .any, .any, .any, .any, .any, .any, .any, .any, .any, .any, .any, .any, .any, .any, .any, .any, .any, .any, .any, .any, .any, .any, .any, .any, .any, .any, .any, .any, .any, .any, .any, .any, .any, .any, .any, .any, .any, .any, .any, .any, .any, .any, .any, .any, .any, .any, .any, .any, .any] ∧ s2 = st ++ [exA 2 1 1 [], exA 3 1 1 [], oc3, oc2]) ?_ ?_
  · simp only [go_sem]
    rw [← c2_d]
    refine ac' (neg_ac cs1 c2 ok2c enc2 _ _ hG _ ?_)
    rw [neg2]
    simp only [cnfD, go_sem, Tryd.results9]
    exact Wk.mask [0, 1, 2, 3, 4, 5, 6, 7] ⟨by simp only [go_sem, Int.reduceBEq], by simp only [go_sem]⟩
  rintro fr st' ⟨rfl, rfl⟩
  refine aw_cut (fun fr s2 => fr = [db false, .d (celsD cs1), .ref st.length 0, .ref (st.length + 1) 0, .ref (st.length + 2) 0, di 0, db true, .ref (st.length + 3) 0, .any, .any, .any, .any, .any, .any, .any, .any, .any, .any, .any, .any, .any, .any, .any, .any, .any, .any, .any, .any, .any, .any, .any, .any, .any, .any, .any, .any, .any, .any, .any, .any, .any, .any, .any, .any, .any, .any, .any, .any, .any, .any, .any, .any, .any, .any, .any, .any, .any, .any, .any, .any, .any, .any, .any, .any, .any, .any, .any, .any, .any, .any, .any, .any, .any, .any, .any, .any, .any, .any, .any, .any, .any, .any, .any, .any, .any, .any, .any, .any, .any, .any, .any, .any, .any, .any, .any, .any, .any, .any, .any, .any, .any, .any, .any, .any, .any, .any, .any, .any, .any, .any, .any, .any, .any, .any, .any, .any, .any, .any, .any, .any, .any, .any, .any, .any, .any, .any, .any, .any, .any, .any, .any, .any, .any, .any, .any, .any, .any, .any, .any, .any, .any, .any, .any, .any, .any, .any, .any, .any, .any, .any, .any, .any, .any, .any, .any, .any, .any, .any, .any, .any, .any, .any, .any, .any, .any, .any, .any, .any, .any, .any, .any, .any, .any, .any, .any, .any, .any, .any, .any, .any, .any, .any, .any, .any, .any, .any, .any, .any, .any, .any, .any, .any, .any, .any, .any, .any, .any, .any, .any, .any, .any, .any, .any, .any, .any, .any, .any, .any, .any, .any, .any, .any, .any, .any, .any, .any, .any, .any, .any, .any, .any, .any] ∧ s2 = st ++ [exA 2 1 1 [], exA 3 1 1 [], oc3, oc2]) ?_ ?_
  · simp only [go_sem, Int.reduceBEq]
    refine exs ⟨fun _ => ?_, fun h => Bool.noConfusion h⟩
    simp only [go_sem]
    refine ac' (ac_weak (Weak.deep [4, 5, 6, 7, 8, 9] 6) ?_)
    simp only [go_sem]
    refine same_ac ⟨4, F2⟩ ⟨4, F2⟩ (by decide) (by decide) (by decide) (by decide) _ _ _ ?_
    simp only [go_sem, and_self, decide_true, Tryd.results9]
    refine exs ⟨fun _ => ?_, fun h => Bool.noConfusion h⟩
    simp only [go_sem]
    refine ac' (cvalid_ac ⟨4, F2⟩ (by decide) (by decide) _ _ _ ?_)
    rw [show validC ⟨4, F2⟩ = true from rfl]
    simp only [go_sem, Tryd.results9]
    refine Wk.pre [0, 1, 2, 3, 4, 5, 6, 7] ?_
    exact Wk.keep [0, 1, 2, 3, 4, 5, 6, 7] [0, 1, 2, 3] (by decide) (Nat.le_refl _) hbd ⟨by simp only [go_sem, Int.reduceBEq], by simp only [go_sem]⟩
  rintro fr st' ⟨rfl, rfl⟩
  refine aw_cut (fun fr s2 => fr = [db false, .d (celsD cs1), .ref st.length 0, .ref (st.length + 1) 0, .ref (st.length + 2) 0, di 0, db true, .ref (st.length + 3) 0, .d (bsD V2), .any, .any, .any, .any, .any, .any, .any, .any, .any, .any, .any, .any, .any, .any, .any, .any, .any, .any, .any, .any, .any, .any, .any, .any, .any, .any, .any, .any, .any, .any, .any, .any, .any, .any, .any, .any, .any, .any, .any, .any, .any, .any, .any, .any, .any, .any, .any, .any, .any, .any, .any, .any, .any, .any, .any, .any, .any, .any, .any, .any, .any, .any, .any, .any, .any, .any, .any, .any, .any, .any, .any, .any, .any, .any, .any, .any, .any, .any, .any, .any, .any, .any, .any, .any, .any, .any, .any, .any, .any, .any, .any, .any, .any, .any, .any, .any, .any, .any, .any, .any, .any, .any, .any, .any, .any, .any, .any, .any, .any, .any, .any, .any, .any, .any, .any, .any, .any, .any, .any, .any, .any, .any, .any, .any, .any, .any, .any, .any, .any, .any, .any, .any, .any, .any, .any, .any, .any, .any, .any, .any, .any, .any, .any, .any, .any, .any, .any, .any, .any, .any, .any, .any, .any, .any, .any, .any, .any, .any, .any, .any, .any, .any, .any, .any, .any, .any, .any, .any, .any, .any, .any, .any, .any, .any, .any, .any, .any, .any, .any, .any, .any, .any, .any, .any, .any, .any, .any, .any, .any, .any, .any, .any, .any, .any, .any, .any, .any, .any, .any, .any, .any, .any, .any, .any, .any, .any, .any, .any, .any, .any, .any, .any, .any] ∧ s2 = st ++ [exA 2 1 1 [], exA 3 1 1 [], oc3, oc2]) ?_ ?_
  · simp only [go_sem]
    refine ac' (ac_weak (Weak.deep [4, 5] 6) ?_)
    simp only [go_sem]
    rw [← c2_d]
    refine ext_ac cs1 c2 ok2c enc2 [0, 0] [0, 1] (by decide) (by decide) _ _ hG _ ?_
    rw [ext2]
    simp only [go_sem, Tryd.results9]
    refine Wk.pre [0, 1, 2, 3, 4, 5, 6, 7, 8] ?_
    exact Wk.keep [0, 1, 2, 3, 4, 5, 6, 7, 8] [0, 1, 2, 3] (by decide) (Nat.le_refl _) hbd ⟨by simp only [go_sem, Int.reduceBEq], by simp only [go_sem]⟩
  rintro fr st' ⟨rfl, rfl⟩
  refine aw_cut (fun fr s2 => fr = [db false, .d (celsD cs1), .ref st.length 0, .ref (st.length + 1) 0, .ref (st.length + 2) 0, .any, db true, .ref (st.length + 3) 0, .any, .any, .any, .any, .any, .any, .any, .any, .any, .any, .any, .any, .any, .any, .any, .any, .any, .any, .any, .any, .any, .any, .any, .any, .any, .any, .any, .any, .any, .any, .any, .any, .any, .any, .any, .any, .any, .any, .any, .any, .any, .any, .any, .any, .any, .any, .any, .any, .any, .any, .any, .any, .any, .any, .any, .any, .any, .any, .any, .any, .any, .any, .any, .any, .any, .any, .any, .any, .any, .any, .any, .any, .any, .any, .any, .any, .any, .any, .any, .any, .any, .any, .any, .any, .any, .any, .any, .any, .any, .any, .any, .any, .any, .any, .any, .any, .any, .any, .any, .any, .any, .any, .any, .any, .any, .any, .any, .any, .any, .any, .any, .any, .any, .any, .any, .any, .any, .any, .any, .any, .any, .any, .any, .any, .any, .any, .any, .any, .any, .any, .any, .any, .any, .any, .any, .any, .any, .any, .any, .any, .any, .any, .any, .any, .any, .any, .any, .any, .any, .any, .any, .any, .any, .any, .any, .any, .any, .any, .any, .any, .any, .any, .any, .any, .any, .any, .any, .any, .any, .any, .any, .any, .any, .any, .any, .any, .any, .any, .any, .any, .any, .any, .any, .any, .any, .any, .any, .any, .any, .any, .any, .any, .any, .any, .any, .any, .any, .any, .any, .any, .any, .any, .any, .any, .any, .any, .any, .any, .any, .any, .any, .any, .any, .any] ∧ s2 = st ++ [exA 2 1 1 [], exA 3 1 1 [], oc3, oc2]) ?_ ?_
  · simp only [go_sem, Int.reduceBEq]
    refine exs ⟨fun _ => ?_, fun h => Bool.noConfusion h⟩
    simp only [go_sem]
    refine ac' (ac_weak (Weak.deep [4] 6) ?_)
    simp only [go_sem]
    refine bools_ac V2 V2 (by decide) (by decide) _ _ _ ?_
    simp only [go_sem, decide_true, Tryd.results9]
    refine exs ⟨fun _ => ?_, fun h => Bool.noConfusion h⟩
    simp only [go_sem]
    refine ac' (ceval_ac ⟨4, F2⟩ V2 (by decide) (by decide) (by decide) _ _ _ ?_)
    rw [show evalC ⟨4, F2⟩ V2 = false from rfl]
    simp only [go_sem, Bool.not_false, Tryd.results9]
    refine Wk.pre [0, 1, 2, 3, 4, 6, 7] ?_
    exact Wk.keep [0, 1, 2, 3, 4, 6, 7] [0, 1, 2, 3] (by decide) (Nat.le_refl _) hbd ⟨by simp only [go_sem, Int.reduceBEq], by simp only [go_sem]⟩
  rintro fr st' ⟨rfl, rfl⟩
  refine aw_cut (fun fr s2 => fr = [db false, .d (celsD cs1), .ref st.length 0, .ref (st.length + 1) 0, .ref (st.length + 2) 0, .any, db true, .ref (st.length + 3) 0, .any, dL [1, 1], dL [1, 0], .any, .any, .any, .any, .any, .any, .any, .any, .any, .any, .any, .any, .any, .any, .any, .any, .any, .any, .any, .any, .any, .any, .any, .any, .any, .any, .any, .any, .any, .any, .any, .any, .any, .any, .any, .any, .any, .any, .any, .any, .any, .any, .any, .any, .any, .any, .any, .any, .any, .any, .any, .any, .any, .any, .any, .any, .any, .any, .any, .any, .any, .any, .any, .any, .any, .any, .any, .any, .any, .any, .any, .any, .any, .any, .any, .any, .any, .any, .any, .any, .any, .any, .any, .any, .any, .any, .any, .any, .any, .any, .any, .any, .any, .any, .any, .any, .any, .any, .any, .any, .any, .any, .any, .any, .any, .any, .any, .any, .any, .any, .any, .any, .any, .any, .any, .any, .any, .any, .any, .any, .any, .any, .any, .any, .any, .any, .any, .any, .any, .any, .any, .any, .any, .any, .any, .any, .any, .any, .any, .any, .any, .any, .any, .any, .any, .any, .any, .any, .any, .any, .any, .any, .any, .any, .any, .any, .any, .any, .any, .any, .any, .any, .any, .any, .any, .any, .any, .any, .any, .any, .any, .any, .any, .any, .any, .any, .any, .any, .any, .any, .any, .any, .any, .any, .any, .any, .any, .any, .any, .any, .any, .any, .any, .any, .any, .any, .any, .any, .any, .any, .any, .any, .any, .any, .any, .any, .any, .any, .any, .any, .any] ∧ s2 = st ++ [exA 2 1 1 [], exA 3 1 1 [], oc3, oc2]) ?_ ?_
  · simp only [go_sem]
    refine ac' (ac_weak (Weak.deep [4] 6) ?_)
    simp only [go_sem]
    rw [← c2_d]
    refine dec_ac cs1 c2 ok2c enc2 [true, true, false, false] (by decide) _ _ hG _ ?_
    rw [dec2]
    simp only [go_sem, Tryd.results9]
    refine Wk.pre [0, 1, 2, 3, 4, 6, 7, 9, 10] ?_
    exact Wk.keep [0, 1, 2, 3, 4, 6, 7, 9, 10] [0, 1, 2, 3] (by decide) (Nat.le_refl _) hbd ⟨by simp only [go_sem, Int.reduceBEq], by simp only [go_sem]⟩
  rintro fr st' ⟨rfl, rfl⟩
  refine aw_cut (fun fr s2 => fr = [db false, .d (celsD cs1), .ref st.length 0, .ref (st.length + 1) 0, .ref (st.length + 2) 0, .any, db true, .ref (st.length + 3) 0, .any, .any, .any, .any, .any, .any, .any, .any, .any, .any, .any, .any, .any, .any, .any, .any, .any, .any, .any, .any, .any, .any, .any, .any, .any, .any, .any, .any, .any, .any, .any, .any, .any, .any, .any, .any, .any, .any, .any, .any, .any, .any, .any, .any, .any, .any, .any, .any, .any, .any, .any, .any, .any, .any, .any, .any, .any, .any, .any, .any, .any, .any, .any, .any, .any, .any, .any, .any, .any, .any, .any, .any, .any, .any, .any, .any, .any, .any, .any, .any, .any, .any, .any, .any, .any, .any, .any, .any, .any, .any, .any, .any, .any, .any, .any, .any, .any, .any, .any, .any, .any, .any, .any, .any, .any, .any, .any, .any, .any, .any, .any, .any, .any, .any, .any, .any, .any, .any, .any, .any, .any, .any, .any, .any, .any, .any, .any, .any, .any, .any, .any, .any, .any, .any, .any, .any, .any, .any, .any, .any, .any, .any, .any, .any, .any, .any, .any, .any, .any, .any, .any, .any, .any, .any, .any, .any, .any, .any, .any, .any, .any, .any, .any, .any, .any, .any, .any, .any, .any, .any, .any, .any, .any, .any, .any, .any, .any, .any, .any, .any, .any, .any, .any, .any, .any, .any, .any, .any, .any, .any, .any, .any, .any, .any, .any, .any, .any, .any, .any, .any, .any, .any, .any, .any, .any, .any, .any, .any, .any, .any, .any, .any, .any, .any] ∧ s2 = st ++ [exA 2 1 1 [], exA 3 1 1 [], oc3, oc2]) ?_ ?_
  · simp only [dL, isD, go_sem, List.map_cons, List.map_nil, List.length_cons, List.length_nil, Int.reduceBEq]
    simp only [go_sem, Int.cast_ofNat_Int, Int.reduceBEq, Int.toNat_zero, Int.toNat_one, List.getD_cons_zero, List.getD_cons_succ]
    refine ⟨⟨by omega, by omega⟩, ⟨by omega, by omega⟩, ⟨by omega, by omega⟩, ⟨by omega, by omega⟩, ?_⟩
    exact Wk.mask [0, 1, 2, 3, 4, 6, 7] ⟨by simp only [go_sem], by simp only [go_sem]⟩
  rintro fr st' ⟨rfl, rfl⟩
  refine aw_cut (fun fr s2 => fr = [db false, .d (celsD cs1), .ref st.length 0, .ref (st.length + 1) 0, .ref (st.length + 2) 0, .any, db true, .ref (st.length + 3) 0, .any, .any, .any, dL [0, 2], dL [0, 3], .any, .any, .any, .any, .any, .any, .any, .any, .any, .any, .any, .any, .any, .any, .any, .any, .any, .any, .any, .any, .any, .any, .any, .any, .any, .any, .any, .any, .any, .any, .any, .any, .any, .any, .any, .any, .any, .any, .any, .any, .any, .any, .any, .any, .any, .any, .any, .any, .any, .any, .any, .any, .any, .any, .any, .any, .any, .any, .any, .any, .any, .any, .any, .any, .any, .any, .any, .any, .any, .any, .any, .any, .any, .any, .any, .any, .any, .any, .any, .any, .any, .any, .any, .any, .any, .any, .any, .any, .any, .any, .any, .any, .any, .any, .any, .any, .any, .any, .any, .any, .any, .any, .any, .any, .any, .any, .any, .any, .any, .any, .any, .any, .any, .any, .any, .any, .any, .any, .any, .any, .any, .any, .any, .any, .any, .any, .any, .any, .any, .any, .any, .any, .any, .any, .any, .any, .any, .any, .any, .any, .any, .any, .any, .any, .any, .any, .any, .any, .any, .any, .any, .any, .any, .any, .any, .any, .any, .any, .any, .any, .any, .any, .any, .any, .any, .any, .any, .any, .any, .any, .any, .any, .any, .any, .any, .any, .any, .any, .any, .any, .any, .any, .any, .any, .any, .any, .any, .any, .any, .any, .any, .any, .any, .any, .any, .any, .any, .any, .any, .any, .any, .any, .any, .any, .any, .any, .any, .any, .any] ∧ s2 = st ++ [exA 2 1 1 [], exA 3 1 1 [], oc3, oc2]) ?_ ?_
  · simp only [go_sem]
    rw [← c2_d]
    refine ac' (lay_ac cs1 c2 ok2c enc2 _ _ hG _ ?_)
    rw [lay2]
    simp only [go_sem, Tryd.results9]
    exact Wk.mask [0, 1, 2, 3, 4, 6, 7, 11, 12] ⟨by simp only [go_sem], by simp only [go_sem]⟩
  rintro fr st' ⟨rfl, rfl⟩
  refine aw_cut (fun fr s2 => fr = [db false, .d (celsD cs1), .ref st.length 0, .ref (st.length + 1) 0, .ref (st.length + 2) 0, .any, db true, .any, .any, .any, .any, .any, .any, .any, .any, .any, .any, .any, .any, .any, .any, .any, .any, .any, .any, .any, .any, .any, .any, .any, .any, .any, .any, .any, .any, .any, .any, .any, .any, .any, .any, .any, .any, .any, .any, .any, .any, .any, .any, .any, .any, .any, .any, .any, .any, .any, .any, .any, .any, .any, .any, .any, .any, .any, .any, .any, .any, .any, .any, .any, .any, .any, .any, .any, .any, .any, .any, .any, .any, .any, .any, .any, .any, .any, .any, .any, .any, .any, .any, .any, .any, .any, .any, .any, .any, .any, .any, .any, .any, .any, .any, .any, .any, .any, .any, .any, .any, .any, .any, .any, .any, .any, .any, .any, .any, .any, .any, .any, .any, .any, .any, .any, .any, .any, .any, .any, .any, .any, .any, .any, .any, .any, .any, .any, .any, .any, .any, .any, .any, .any, .any, .any, .any, .any, .any, .any, .any, .any, .any, .any, .any, .any, .any, .any, .any, .any, .any, .any, .any, .any, .any, .any, .any, .any, .any, .any, .any, .any, .any, .any, .any, .any, .any, .any, .any, .any, .any, .any, .any, .any, .any, .any, .any, .any, .any, .any, .any, .any, .any, .any, .any, .any, .any, .any, .any, .any, .any, .any, .any, .any, .any, .any, .any, .any, .any, .any, .any, .any, .any, .any, .any, .any, .any, .any, .any, .any, .any, .any, .any, .any, .any, .any] ∧ s2 = st ++ [exA 2 1 1 [], exA 3 1 1 [], oc3, oc2]) ?_ ?_
  · simp only [dL, isD, go_sem, List.map_cons, List.map_nil, List.length_cons, List.length_nil, Int.reduceBEq, Int.cast_ofNat_Int, Int.reduceBEq, Int.toNat_zero, Int.toNat_one, List.getD_cons_zero, List.getD_cons_succ]
    refine ⟨⟨by omega, by omega⟩, ⟨by omega, by omega⟩, ⟨by omega, by omega⟩, ?_⟩
    exact Wk.mask [0, 1, 2, 3, 4, 6] ⟨by simp only [go_sem], by simp only [go_sem]⟩
  rintro fr st' ⟨rfl, rfl⟩
  refine aw_cut (fun fr s2 => fr = [db false, .d (celsD cs1), .any, .any, .ref st.length 0, .any, db true, .any, .any, .any, .any, .any, .any, .ref (st.length + 1) 0, .any, .any, .any, .any, .any, .any, .any, .any, .any, .any, .any, .any, .any, .any, .any, .any, .any, .any, .any, .any, .any, .any, .any, .any, .any, .any, .any, .any, .any, .any, .any, .any, .any, .any, .any, .any, .any, .any, .any, .any, .any, .any, .any, .any, .any, .any, .any, .any, .any, .any, .any, .any, .any, .any, .any, .any, .any, .any, .any, .any, .any, .any, .any, .any, .any, .any, .any, .any, .any, .any, .any, .any, .any, .any, .any, .any, .any, .any, .any, .any, .any, .any, .any, .any, .any, .any, .any, .any, .any, .any, .any, .any, .any, .any, .any, .any, .any, .any, .any, .any, .any, .any, .any, .any, .any, .any, .any, .any, .any, .any, .any, .any, .any, .any, .any, .any, .any, .any, .any, .any, .any, .any, .any, .any, .any, .any, .any, .any, .any, .any, .any, .any, .any, .any, .any, .any, .any, .any, .any, .any, .any, .any, .any, .any, .any, .any, .any, .any, .any, .any, .any, .any, .any, .any, .any, .any, .any, .any, .any, .any, .any, .any, .any, .any, .any, .any, .any, .any, .any, .any, .any, .any, .any, .any, .any, .any, .any, .any, .any, .any, .any, .any, .any, .any, .any, .any, .any, .any, .any, .any, .any, .any, .any, .any, .any, .any, .any, .any, .any, .any, .any, .any, .any, .any, .any, .any, .any, .any] ∧ s2 = st ++ [oc3, oeq]) ?_ ?_
  · simp only [go_sem]
    refine ac' (old_ac _ _ _ _ _ ?_)
    simp only [go_sem]
    refine ac' (cell_ac _ _ _ _ _ ?_)
    simp only [go_sem]
    refine ac' (two_ac _ _ _ _ _ _ _ ?_)
    rw [show Ex.mk 11 1 0 [Ex.mk 3 2 0 [], Ex.mk 2 2 0 []] = eqX from rfl, eqX_d]
    simp only [go_sem]
    refine Wk.pre [0, 1, 4, 6, 13] ?_
    exact Wk.keep [0, 1, 4, 6, 13] [2, 4] (by decide) (Nat.le_refl _) hbd ⟨by simp only [go_sem], by simp only [go_sem]⟩
  rintro fr st' ⟨rfl, rfl⟩
  refine aw_cut (fun fr s2 => fr = [db false, .d (celsD cs1), .any, .any, .ref st.length 0, di 0, db true, .any, .any, .any, .any, .any, .any, .ref (st.length + 1) 0, .any, .any, .any, .any, .any, .any, .any, .any, .any, .any, .any, .any, .any, .any, .any, .any, .any, .any, .any, .any, .any, .any, .any, .any, .any, .any, .any, .any, .any, .any, .any, .any, .any, .any, .any, .any, .any, .any, .any, .any, .any, .any, .any, .any, .any, .any, .any, .any, .any, .any, .any, .any, .any, .any, .any, .any, .any, .any, .any, .any, .any, .any, .any, .any, .any, .any, .any, .any, .any, .any, .any, .any, .any, .any, .any, .any, .any, .any, .any, .any, .any, .any, .any, .any, .any, .any, .any, .any, .any, .any, .any, .any, .any, .any, .any, .any, .any, .any, .any, .any, .any, .any, .any, .any, .any, .any, .any, .any, .any, .any, .any, .any, .any, .any, .any, .any, .any, .any, .any, .any, .any, .any, .any, .any, .any, .any, .any, .any, .any, .any, .any, .any, .any, .any, .any, .any, .any, .any, .any, .any, .any, .any, .any, .any, .any, .any, .any, .any, .any, .any, .any, .any, .any, .any, .any, .any, .any, .any, .any, .any, .any, .any, .any, .any, .any, .any, .any, .any, .any, .any, .any, .any, .any, .any, .any, .any, .any, .any, .any, .any, .any, .any, .any, .any, .any, .any, .any, .any, .any, .any, .any, .any, .any, .any, .any, .any, .any, .any, .any, .any, .any, .any, .any, .any, .any, .any, .any, .any] ∧ s2 = st ++ [oc5, oeq]) ?_ ?_
  · simp only [go_sem]
    refine aw_plan (.take 0 <| .pure 1 <| .tk 8 2 <| .done) (by kernel_rfl) ?_
    simp only [go_sem]
    refine exP (.d (Ex.mk 1 1 1 []).d) ⟨fun σ' => ac' (const_ac _ _ _ _ _ ⟨rfl, rfl⟩), ?_⟩
    rw [oneX_d]
    simp only [go_sem, Tryd.results9]
    rw [← c3_d]
    refine ac' (neg_ac cs1 c3 ok3c enc3 _ _ hG _ ?_)
    rw [neg3]
    simp only [cnfD, go_sem, Tryd.results9]
    exact Wk.mask [0, 1, 4, 5, 6, 13] ⟨by simp only [go_sem], by simp only [go_sem]⟩
  rintro fr st' ⟨rfl, rfl⟩
  refine aw_cut (fun fr s2 => fr = [db false, .d (celsD cs1), .any, .any, .any, .any, db true, .any, .any, .any, .any, .any, .any, .ref st.length 0, .any, .any, .any, .any, .any, .any, .any, .any, .any, .any, .any, .any, .any, .any, .any, .any, .any, .any, .any, .any, .any, .any, .any, .any, .any, .any, .any, .any, .any, .any, .any, .any, .any, .any, .any, .any, .any, .any, .any, .any, .any, .any, .any, .any, .any, .any, .any, .any, .any, .any, .any, .any, .any, .any, .any, .any, .any, .any, .any, .any, .any, .any, .any, .any, .any, .any, .any, .any, .any, .any, .any, .any, .any, .any, .any, .any, .any, .any, .any, .any, .any, .any, .any, .any, .any, .any, .any, .any, .any, .any, .any, .any, .any, .any, .any, .any, .any, .any, .any, .any, .any, .any, .any, .any, .any, .any, .any, .any, .any, .any, .any, .any, .any, .any, .any, .any, .any, .any, .any, .any, .any, .any, .any, .any, .any, .any, .any, .any, .any, .any, .any, .any, .any, .any, .any, .any, .any, .any, .any, .any, .any, .any, .any, .any, .any, .any, .any, .any, .any, .any, .any, .any, .any, .any, .any, .any, .any, .any, .any, .any, .any, .any, .any, .any, .any, .any, .any, .any, .any, .any, .any, .any, .any, .any, .any, .any, .any, .any, .any, .any, .any, .any, .any, .any, .any, .any, .any, .any, .any, .any, .any, .any, .any, .any, .any, .any, .any, .any, .any, .any, .any, .any, .any, .any, .any, .any, .any, .any] ∧ s2 = st ++ [oeq]) ?_ ?_
  · have hg12 : List.getD (F3.map isD) (Int.toNat 12) default = .sl 1 [iD (-8)] := rfl
    simp only [clsD, go_sem, Int.reduceBEq, List.length_map, show F3.length = 13 from rfl, Int.cast_ofNat_Int, hg12, Int.toNat_zero, Tryd.results9]
    refine ⟨by decide, ?_⟩
    refine exs ⟨fun _ => ?_, fun h => Bool.noConfusion h⟩
    simp only [go_sem]
    refine ac' (ac_weak (Weak.deep [2] 6) ?_)
    simp only [go_sem]
    refine sameInts_ac [-8] [-8] (by decide) (by decide) _ _ _ ?_
    simp only [go_sem, decide_true, Tryd.results9]
    refine Wk.pre [0, 1, 6, 13] ?_
    exact Wk.keep [0, 1, 6, 13] [1] (by decide) (Nat.le_refl _) hbd ⟨by simp only [go_sem, Int.reduceBEq], by simp only [go_sem]⟩
  rintro fr st' ⟨rfl, rfl⟩
  refine aw_cut (fun fr s2 => fr = [db false, .d (celsD cs1), .any, .any, .any, di 1, db true, .any, .any, .any, .any, .any, .any, .ref st.length 0, .any, .any, .any, .any, .any, .any, .any, .any, .any, .any, .any, .any, .any, .any, .any, .any, .any, .any, .any, .any, .any, .any, .any, .any, .any, .any, .any, .any, .any, .any, .any, .any, .any, .any, .any, .any, .any, .any, .any, .any, .any, .any, .any, .any, .any, .any, .any, .any, .any, .any, .any, .any, .any, .any, .any, .any, .any, .any, .any, .any, .any, .any, .any, .any, .any, .any, .any, .any, .any, .any, .any, .any, .any, .any, .any, .any, .any, .any, .any, .any, .any, .any, .any, .any, .any, .any, .any, .any, .any, .any, .any, .any, .any, .any, .any, .any, .any, .any, .any, .any, .any, .any, .any, .any, .any, .any, .any, .any, .any, .any, .any, .any, .any, .any, .any, .any, .any, .any, .any, .any, .any, .any, .any, .any, .any, .any, .any, .any, .any, .any, .any, .any, .any, .any, .any, .any, .any, .any, .any, .any, .any, .any, .any, .any, .any, .any, .any, .any, .any, .any, .any, .any, .any, .any, .any, .any, .any, .any, .any, .any, .any, .any, .any, .any, .any, .any, .any, .any, .any, .any, .any, .any, .any, .any, .any, .any, .any, .any, .any, .any, .any, .any, .any, .any, .any, .any, .any, .any, .any, .any, .any, .any, .any, .any, .any, .any, .any, .any, .any, .any, .any, .any, .any, .any, .any, .any, .any, .any] ∧ s2 = st ++ [oeq]) ?_ ?_
  · simp only [go_sem]
    refine aw_plan (.take 0 <| .pure 2 <| .take 1 <| .tk 6 3 <| .done) (by kernel_rfl) ?_
    simp only [go_sem]
    refine exP (.d (Ex.mk 3 2 0 []).d) ⟨fun σ' => ac' (old_ac _ _ _ _ _ ⟨rfl, rfl⟩), ?_⟩
    rw [old2_d]
    simp only [go_sem, Tryd.results9]
    rw [← c4_d]
    refine ac' (nenc_ac cs1 c4 ok4c (by decide) (by kernel_rfl) (by kernel_rfl) rfl (by decide) _ _ hG _ ?_)
    simp only [cnfD, go_sem, Tryd.results9]
    exact Wk.mask [0, 1, 5, 6, 13] ⟨by simp only [go_sem], by simp only [go_sem]⟩
  rintro fr st' ⟨rfl, rfl⟩
  simp only [go_sem, Int.reduceBEq]
  refine exs ⟨fun _ => ?_, fun h => Bool.noConfusion h⟩
  simp only [go_sem]
  rw [← eqX_d]
  refine ac' (valid_prog eqX eqX_ok cs1 (by kernel_rfl) (by kernel_rfl) _ _ hG _ ?_)
  simp only [go_sem, Tryd.results9]
  exact ret_d hbd h
end Go.Proofs.YtkjlefahpdconaaDoor
end PartD2

section PartD3
/- What the laws look at: sizes of a formula. -/
set_option linter.unusedSimpArgs false
set_option linter.unusedVariables false
set_option maxRecDepth 100000
namespace Go.Proofs.YtkjlefahpdconaaDoor
open Go Go.Ab

theorem TR.lits {cs : List Cel} {h g : Ex} {gs : List Gt} {root : Int} (t : TR cs h g root gs) : ∀ x ∈ (negF (firstV cs h g) (root, gs)).cls, ∀ l ∈ x, Lit (firstV cs h g + gs.length) l := fun x hx l hl => by
  rcases List.mem_append.1 hx with hx | hx
  · exact most_lits t.good.pos t.good.ok x hx l hl
  · obtain rfl : x = [root] := by simpa using hx
    obtain rfl : l = root := by simpa using hl
    exact t.lit
theorem TR.len {cs : List Cel} {h g : Ex} {gs : List Gt} {root : Int} (t : TR cs h g root gs) : (negF (firstV cs h g) (root, gs)).cls.length ≤ 40000 := by
  have := most_len (first := firstV cs h g) (gs := gs)
  have := t.good.fit.2
  simp [negF]; omega
theorem TR.fine {cs : List Cel} {h g : Ex} {gs : List Gt} {root : Int} (t : TR cs h g root gs) : fineC (negF (firstV cs h g) (root, gs)) = true := by
  have h1 := t.good.fit.1
  have h2 := t.good.pos
  simp only [fineC, Bool.and_eq_true, decide_eq_true_eq]
  refine ⟨⟨⟨⟨?_, ?_⟩, ?_⟩, t.len⟩, ?_⟩
  · simp only [negF]; omega
  · simp only [negF]; omega
  · simp [negF, mostC]
  · simp only [clsV, List.all_eq_true]
    intro x hx l hl
    have := t.lits x hx l hl
    exact decide_eq_true this
theorem gate_short {f : Int} {g : Gt} : ∀ c ∈ gateCls f g, c.length ≤ 3 := by
  intro c hc
  unfold gateCls at hc
  split at hc <;> simp only [List.mem_cons, List.not_mem_nil, or_false] at hc
  · rcases hc with rfl | rfl | rfl | rfl <;> simp
  · rcases hc with rfl | rfl | rfl <;> simp
theorem cls_short : ∀ (gs : List Gt) (first : Nat), ∀ c ∈ clsG first gs, c.length ≤ 3
  | [], first, c, hc => by simp [clsG] at hc
  | g :: gs, first, c, hc => by
    simp only [clsG, List.mem_append] at hc
    rcases hc with hc | hc
    · exact gate_short c hc
    · exact cls_short gs _ c hc
theorem most_short {first : Nat} {gs : List Gt} : ∀ c ∈ mostC first gs, c.length ≤ 3 := fun c hc => by
  rcases List.mem_cons.1 hc with rfl | hc
  · simp
  · exact cls_short gs first c hc
theorem neg_short {first : Nat} {gs : List Gt} {root : Int} : ∀ c ∈ (negF first (root, gs)).cls, c.length ≤ 3 := fun c hc => by
  rcases List.mem_append.1 hc with hc | hc
  · exact most_short c hc
  · obtain rfl : c = [root] := by simpa using hc
    simp
theorem reach_le {n : Nat} (h : n ≤ 100000) : n ≤ reachBytes := by simp only [reachBytes]; omega
end Go.Proofs.YtkjlefahpdconaaDoor
end PartD3

section PartD4
/- Law 22.2: meaning. -/
set_option linter.unusedSimpArgs false
set_option linter.unusedVariables false
set_option maxRecDepth 100000
namespace Go.Proofs.YtkjlefahpdconaaDoor
open Go Go.Ab

/-- A condition as a cell. -/
abbrev cdO (c : Cnd) : Option Ob := some (.cells [.d (.str c.id), di c.kind, di c.mod, di c.thread, di c.item, di c.other, di c.hyp.op, di c.hyp.w, di c.hyp.n, .d (.sl 4 (c.hyp.kids.map Ex.d)), di c.goal.op, di c.goal.w, di c.goal.n, .d (.sl 4 (c.goal.kids.map Ex.d))])
set_option maxHeartbeats 16000000 in
theorem law7_ac (cs : List Cel) (hc : cs.length ≤ reachBytes) (c : Cnd) (hok : c.Ok) (old now : List Int) (ho : old.length ≤ reachBytes) (hn : now.length ≤ reachBytes) (σ : St) (G : Glob) (hG : G.g 0 = some masksD) (R : A → St → Prop) (h : R (db true) σ) : AC Tryd.prog G 7 [.d (celsD cs), .d (cndD c), dL old, dL now] σ R := by
  refine ac_enterC' [4, 6, 12, 13, 14, 15] mixed Tryd.func7 rfl Tryd.ntmps7 (by simp only [go_sem]) fun hbd => ?_
  simp only [List.length_cons, List.length_nil, Nat.reduceAdd, Nat.reduceSub, List.replicate_succ, List.replicate_zero, List.cons_append, List.nil_append]
  simp only [cndD, go_sem]
  refine ac' (head_ac _ _ hG _ ?_)
  simp only [go_sem]
  refine aw_cut (fun fr st => (encR cs c = true ∧ old.length ≤ 50 ∧ now.length ≤ 50) ∧ fr = [.d (celsD cs), .any, dL old, dL now, .any, .ref σ.length 0, .any, .any, .any, db true, .any, .any, .any, .any, .any, .any, .any, .any, .any, .any, .any, .any, .any, .any, .any, .any, .any, .any, .any, .any, .any, .any, .any, .any, .any, .any, .any, .any, .any, .any, .any, .any, .any, .any, .any, .any, .any, .any, .any, .any, .any, .any, .any, .any, .any, .any, .any, .any, .any, .any, .any, .any, .any, .any, .any, .any, .any, .any, .any, .any, .any, .any, .any, .any, .any, .any, .any, .any, .any, .any, .any, .any, .any, .any, .any, .any, .any, .any, .any, .any, .any, .any, .any, .any, .any, .any, .any, .any, .any, .any, .any] ∧ st = σ ++ [cdO c]) ?_ ?_
  · simp only [go_sem]
    rw [← cndD]
    refine ac' (lsmall_ac cs hc c hok 60 (by omega) _ _ _ ?_)
    cases hB : (smallR cs c 60 && encR cs c)
    · simp only [dL, isD, go_sem, Bool.not_false, Tryd.results7]
      exact ret_d hbd h
    have he : encR cs c = true := by rw [Bool.and_eq_true] at hB; exact hB.2
    simp only [dL, isD, go_sem, Bool.not_true, List.length_map, Tryd.results7]
    refine ⟨fun q => ret_d hbd h, fun q => ?_⟩
    simp only [Bool.false_or, Bool.or_eq_false_iff, decide_eq_false_iff_not, Bool.or_eq_true, not_or] at q
    refine Wk.mask [0, 2, 3, 5, 9] ⟨⟨he, ?_, ?_⟩, rfl, rfl⟩
    · omega
    · omega
  rintro fr st ⟨⟨he, ho5, hn5⟩, rfl, rfl⟩
  have E := enc_of he
  simp only [go_sem]
  rw [← cndD]
  refine ac' (neg_ac cs c hok he _ _ hG _ ?_)
  cases ht : transM cs c.hyp c.goal [] with
  | none =>
    have hneg : negR cs c = (⟨0, []⟩, 2) := by rw [negR, ht]
    have hext : extR cs c old now = ([], 2) := by rw [extR, ht]
    rw [hneg]
    simp only [cnfD, go_sem]
    refine aw_cut (fun fr st => fr = [.any, .any, .any, .any, .any, .any, .any, .any, .any, db true, .any, di 2, .any, di 2, .any, .any, .any, .any, .any, .any, .any, .any, .any, .any, .any, .any, .any, .any, .any, .any, .any, .any, .any, .any, .any, .any, .any, .any, .any, .any, .any, .any, .any, .any, .any, .any, .any, .any, .any, .any, .any, .any, .any, .any, .any, .any, .any, .any, .any, .any, .any, .any, .any, .any, .any, .any, .any, .any, .any, .any, .any, .any, .any, .any, .any, .any, .any, .any, .any, .any, .any, .any, .any, .any, .any, .any, .any, .any, .any, .any, .any, .any, .any, .any, .any, .any, .any, .any, .any, .any, .any] ∧ st = σ) ?_ ?_
    · simp only [go_sem]
      rw [← cndD]
      refine ac' (ext_ac cs c hok he old now ho hn _ _ hG _ ?_)
      rw [hext]
      simp only [go_sem]
      exact Wk.keep [9, 11, 13] [] (by decide) (Nat.le_refl _) hbd ⟨by simp only [go_sem], by simp only [go_sem]⟩
    rintro fr st ⟨rfl, rfl⟩
    simp only [go_sem, Int.reduceBNe, Int.reduceBEq, Tryd.results7]
    exact ret_d0 h
  | some p =>
    obtain ⟨root, gs⟩ := p
    have t := E.tr ht
    have hneg : negR cs c = (negF (firstV cs c.hyp c.goal) (root, gs), 0) := by rw [negR, ht]
    have hext : extR cs c old now = (extV cs c.hyp c.goal old now gs, 0) := by rw [extR, ht]
    have hvl : (extV cs c.hyp c.goal old now gs).length = firstV cs c.hyp c.goal + gs.length := ext_len
    have hfl := t.len
    have hfs : ∀ x ∈ (negF (firstV cs c.hyp c.goal) (root, gs)).cls, x.length ≤ reachBytes := fun x hx => reach_le (Nat.le_trans (neg_short x hx) (by omega))
    have hml : ∀ x ∈ mostC (firstV cs c.hyp c.goal) gs, x.length ≤ reachBytes := fun x hx => reach_le (Nat.le_trans (most_short x hx) (by omega))
    have hfit := t.good.fit.1
    have hmean := E.meaning (old := old) (now := now) t
    have hmost := (t.most (vs := extV cs c.hyp c.goal old now gs)).2 hmean.1
    have hlast := t.last (vs := extV cs c.hyp c.goal old now gs)
    have hfine := t.fine
    rw [hmean.2] at hlast
    obtain ⟨V, hV⟩ : ∃ V, extV cs c.hyp c.goal old now gs = V := ⟨_, rfl⟩
    obtain ⟨N, hN⟩ : ∃ N, firstV cs c.hyp c.goal + gs.length = N := ⟨_, rfl⟩
    obtain ⟨M, hM⟩ : ∃ M, mostC (firstV cs c.hyp c.goal) gs = M := ⟨_, rfl⟩
    rw [hV] at hvl hext hmost hlast
    rw [hN] at hvl hmost hlast hfit
    rw [negF] at hneg hfs hfl hfine
    simp only [hN] at hneg hfs hfl hfine
    rw [hM] at hmost hneg hfs hfl hfine hml
    have ht1 : List.take M.length ((M ++ [[root]]).map isD) = M.map isD := by rw [List.map_append, List.take_left' (by simp)]
    have ht2 : List.drop M.length (List.take (M.length + 1) ((M ++ [[root]]).map isD)) = [isD [root]] := by
      rw [List.take_of_length_le (by simp), List.map_append, List.drop_left' (by simp)]; rfl
    rw [hneg]
    simp only [cnfD, go_sem]
    refine aw_cut (fun fr st => fr = [.any, .any, dL old, dL now, .any, .ref σ.length 0, .any, .any, .any, db true, .ref (σ.length + 1) 0, di 0, .d (bsD V), di 0, .any, .any, .any, .any, .any, .any, .any, .any, .any, .any, .any, .any, .any, .any, .any, .any, .any, .any, .any, .any, .any, .any, .any, .any, .any, .any, .any, .any, .any, .any, .any, .any, .any, .any, .any, .any, .any, .any, .any, .any, .any, .any, .any, .any, .any, .any, .any, .any, .any, .any, .any, .any, .any, .any, .any, .any, .any, .any, .any, .any, .any, .any, .any, .any, .any, .any, .any, .any, .any, .any, .any, .any, .any, .any, .any, .any, .any, .any, .any, .any, .any, .any, .any, .any, .any, .any, .any] ∧ st = σ ++ [cdO c, some (.cells [dn N, .d (clsD (M ++ [[root]]))])]) ?_ ?_
    · simp only [go_sem]
      rw [← cndD]
      refine ac' (ext_ac cs c hok he old now ho hn _ _ hG _ ?_)
      rw [hext]
      simp only [go_sem]
      exact Wk.mask [2, 3, 5, 9, 10, 11, 12, 13] ⟨by simp only [go_sem], by simp only [go_sem]⟩
    rintro fr st ⟨rfl, rfl⟩
    simp only [go_sem, Int.reduceBNe, Int.reduceBEq, Tryd.results7]
    refine aw_cut (fun fr st => fr = [.any, .any, dL old, dL now, .any, .ref σ.length 0, .any, .any, .any, db true, .ref (σ.length + 1) 0, .any, .d (bsD V), .any, .any, .any, .any, .any, .any, .any, .any, .any, .any, .any, .any, .any, .any, .any, .any, .any, .any, .any, .any, .any, .any, .any, .any, .any, .any, .any, .any, .any, .any, .any, .any, .any, .any, .any, .any, .any, .any, .any, .any, .any, .any, .any, .any, .any, .any, .any, .any, .any, .any, .any, .any, .any, .any, .any, .any, .any, .any, .any, .any, .any, .any, .any, .any, .any, .any, .any, .any, .any, .any, .any, .any, .any, .any, .any, .any, .any, .any, .any, .any, .any, .any, .any, .any, .any, .any, .any, .any] ∧ st = σ ++ [cdO c, some (.cells [dn N, .d (clsD (M ++ [[root]]))])]) ?_ ?_
    · simp only [go_sem, Int.reduceBNe, Int.reduceBEq, Tryd.results7]
      refine exs ⟨fun _ => ?_, fun h => Bool.noConfusion h⟩
      simp only [go_sem]
      refine ac' (fine_ac ⟨N, M ++ [[root]]⟩ (reach_le (show (M ++ [[root]]).length ≤ 100000 by omega)) hfs _ _ _ ?_)
      rw [hfine]
      have e1 : ((N : Int) != (N : Int)) = false := by simp
      simp only [bsD, go_sem, List.length_map, hvl, Bool.not_true, Int.reduceBNe, e1, Tryd.results7]
      exact Wk.mask [2, 3, 5, 9, 10, 12] ⟨by simp only [go_sem], by simp only [go_sem]⟩
    rintro fr st ⟨rfl, rfl⟩
    simp only [clsD, go_sem, List.length_map, List.length_append, List.length_cons, List.length_nil]
    refine aw_cut (fun fr st => fr = [.any, .any, dL old, dL now, .any, .ref σ.length 0, .any, .any, .any, db true, .ref (σ.length + 1) 0, .any, .d (bsD V), .any, dn M.length, .any, .any, .any, .any, .any, .any, .any, .any, .any, .any, .any, .any, .any, .any, .any, .any, .any, .any, .any, .any, .any, .any, .any, .any, .any, .any, .any, .any, .any, .any, .any, .any, .any, .any, .any, .any, .any, .any, .any, .any, .any, .any, .any, .any, .any, .any, .any, .any, .any, .any, .any, .any, .any, .any, .any, .any, .any, .any, .any, .any, .any, .any, .any, .any, .any, .any, .any, .any, .any, .any, .any, .any, .any, .any, .any, .any, .any, .any, .any, .any, .any, .any, .any, .any, .any, .any] ∧ st = σ ++ [cdO c, some (.cells [dn N, .d (clsD (M ++ [[root]]))])]) ?_ ?_
    · have w1 : IntKind.i64.wrap (((M.length + 1 : Nat) : Int) - 1) = (M.length : Nat) := by
        simp only [List.length_append, List.length_cons, List.length_nil] at hfl
        rw [wrap64_id _ (by omega) (by omega)]; omega
      simp only [clsD, go_sem, List.length_map, List.length_append, List.length_cons, List.length_nil, Nat.zero_add, w1]
      exact Wk.mask [2, 3, 5, 9, 10, 12, 14] ⟨by simp only [go_sem], by simp only [clsD, go_sem]⟩
    rintro fr st ⟨rfl, rfl⟩
    refine aw_cut (fun fr st => fr = [.any, .any, dL old, dL now, .any, .ref σ.length 0, .any, .any, .any, db true, .ref (σ.length + 1) 0, .any, .d (bsD V), .any, dn M.length, .ref (σ.length + 2) 0, .any, .any, .any, .any, .any, .any, .any, .any, .any, .any, .any, .any, .any, .any, .any, .any, .any, .any, .any, .any, .any, .any, .any, .any, .any, .any, .any, .any, .any, .any, .any, .any, .any, .any, .any, .any, .any, .any, .any, .any, .any, .any, .any, .any, .any, .any, .any, .any, .any, .any, .any, .any, .any, .any, .any, .any, .any, .any, .any, .any, .any, .any, .any, .any, .any, .any, .any, .any, .any, .any, .any, .any, .any, .any, .any, .any, .any, .any, .any, .any, .any, .any, .any, .any, .any] ∧ st = σ ++ [cdO c, some (.cells [dn N, .d (clsD (M ++ [[root]]))]), some (.cells [dn N, .d (clsD M)])]) ?_ ?_
    · simp only [go_sem]
      refine aw_plan (.tk 9 0 <| .done) (by kernel_rfl) ?_
      simp only [clsD, go_sem, List.length_map, List.length_append, List.length_cons, List.length_nil, Nat.zero_add]
      rw [ht1]
      exact ⟨⟨by omega, by omega, by omega⟩, Wk.mask [2, 3, 5, 9, 10, 12, 14, 15] ⟨by simp only [go_sem], by simp only [go_sem]⟩⟩
    rintro fr st ⟨rfl, rfl⟩
    refine aw_cut (fun fr st => fr = [.any, .any, dL old, dL now, .any, .ref σ.length 0, .any, .any, .any, db true, .any, .any, .d (bsD V), .any, .any, .ref (σ.length + 1) 0, .ref (σ.length + 2) 0, .any, .any, .any, .any, .any, .any, .any, .any, .any, .any, .any, .any, .any, .any, .any, .any, .any, .any, .any, .any, .any, .any, .any, .any, .any, .any, .any, .any, .any, .any, .any, .any, .any, .any, .any, .any, .any, .any, .any, .any, .any, .any, .any, .any, .any, .any, .any, .any, .any, .any, .any, .any, .any, .any, .any, .any, .any, .any, .any, .any, .any, .any, .any, .any, .any, .any, .any, .any, .any, .any, .any, .any, .any, .any, .any, .any, .any, .any, .any, .any, .any, .any, .any, .any] ∧ st = σ ++ [cdO c, some (.cells [dn N, .d (clsD M)]), some (.cells [dn N, .d (clsD [[root]])])]) ?_ ?_
    · simp only [go_sem]
      refine aw_plan (.tk 9 0 <| .done) (by kernel_rfl) ?_
      simp only [clsD, go_sem, List.length_map, List.length_append, List.length_cons, List.length_nil, Nat.zero_add]
      rw [ht2]
      refine ⟨⟨by omega, by omega, by omega⟩, Wk.keep [2, 3, 5, 9, 12, 15, 16] [0, 2, 3] (by decide) (Nat.le_refl _) hbd ⟨by simp only [go_sem], by simp only [List.map_cons, List.map_nil, go_sem]⟩⟩
    rintro fr st ⟨rfl, rfl⟩
    simp only [go_sem]
    refine aw_plan (.tk 4 0 <| .pure 4 <| .tk 4 5 <| .tk 2 11 <| .pure 9 <| .take 10 <| .pure 13 <| .tk 3 14 <| .done) (by kernel_rfl) ?_
    simp only [go_sem]
    refine exQ (.bool true) ⟨fun _ => ?_, ?_⟩
    · simp only [go_sem]
      exact fun σ' => ac' (ceval_ac ⟨N, M⟩ V (reach_le (show M.length ≤ 100000 by simp only [List.length_append] at hfl; omega)) hml (reach_le (by omega)) _ _ _ ⟨by rw [hmost], rfl⟩)
    simp only [go_sem, Tryd.results7]
    refine exQ (.bool (bad c old now)) ⟨fun _ => ?_, ?_⟩
    · simp only [go_sem]
      refine fun σ' => ac' (ceval_ac ⟨N, [[root]]⟩ V (by simp [reachBytes]) (by simp [reachBytes]) (reach_le (by omega)) _ _ _ ⟨by rw [hlast]; rfl, rfl⟩)
    simp only [go_sem, Tryd.results7]
    refine exQ (.bool (bad c old now)) ⟨fun _ => ?_, ?_⟩
    · simp only [go_sem]
      rw [← cndD]
      refine fun σ' => ac' (violated_ac c hok E.hf E.gf old now ho hn _ _ hG _ ⟨rfl, rfl⟩)
    have e1 : (bad c old now == bad c old now) = true := by simp
    simp only [go_sem, e1, Tryd.results7]
    exact ret_d hbd h
end Go.Proofs.YtkjlefahpdconaaDoor
end PartD4

section PartD5
/- Law 22.5: states. -/
set_option linter.unusedSimpArgs false
set_option linter.unusedVariables false
set_option maxRecDepth 100000
namespace Go.Proofs.YtkjlefahpdconaaDoor
open Go Go.Ab

theorem getD_over {l : List Int} {j : Nat} (h : l.length ≤ j) : l.getD j 0 = 0 := by
  rw [List.getD_eq_getElem?_getD, List.getElem?_eq_none h]; rfl
set_option maxHeartbeats 16000000 in
theorem law4_ac (cs : List Cel) (hc : cs.length ≤ reachBytes) (c : Cnd) (hok : c.Ok) (old now : List Int) (ho : old.length ≤ reachBytes) (hn : now.length ≤ reachBytes) (σ : St) (G : Glob) (hG : G.g 0 = some masksD) (R : A → St → Prop) (h : R (db true) σ) : AC Tryd.prog G 4 [.d (celsD cs), .d (cndD c), dL old, dL now] σ R := by
  refine ac_enterC' [4, 5, 9, 11, 17, 19, 22, 25] mixed Tryd.func4 rfl Tryd.ntmps4 (by simp only [go_sem]) fun hbd => ?_
  simp only [List.length_cons, List.length_nil, Nat.reduceAdd, Nat.reduceSub, List.replicate_succ, List.replicate_zero, List.cons_append, List.nil_append]
  simp only [cndD, go_sem]
  refine ac' (head_ac _ _ hG _ ?_)
  simp only [go_sem]
  refine aw_cut (fun fr st => (encR cs c = true ∧ old.length ≤ 50 ∧ now.length ≤ 50) ∧ fr = [.d (celsD cs), .any, dL old, dL now, .any, .ref σ.length 0, .any, .any, .any, db true, .any, .any, .any, .any, .any, .any, .any, .any, .any, .any, .any, .any, .any, .any, .any, .any, .any, .any, .any, .any, .any, .any, .any, .any, .any, .any, .any, .any, .any, .any, .any, .any, .any, .any, .any, .any, .any, .any, .any, .any, .any, .any, .any, .any, .any, .any, .any, .any, .any, .any, .any, .any, .any, .any, .any, .any, .any, .any, .any, .any, .any, .any, .any, .any, .any, .any, .any, .any, .any, .any, .any, .any, .any, .any, .any, .any, .any, .any, .any, .any, .any, .any, .any, .any, .any, .any, .any, .any, .any, .any, .any, .any, .any, .any, .any, .any, .any, .any, .any, .any, .any, .any, .any, .any, .any, .any, .any, .any, .any, .any, .any, .any, .any, .any, .any, .any, .any, .any, .any, .any, .any, .any, .any, .any, .any, .any, .any, .any, .any, .any, .any, .any, .any, .any, .any, .any, .any, .any, .any, .any, .any, .any, .any, .any, .any, .any, .any, .any, .any, .any, .any, .any, .any, .any] ∧ st = σ ++ [cdO c]) ?_ ?_
  · simp only [go_sem]
    rw [← cndD]
    refine ac' (lsmall_ac cs hc c hok 60 (by omega) _ _ _ ?_)
    cases hB : (smallR cs c 60 && encR cs c)
    · simp only [dL, isD, go_sem, Bool.not_false, Tryd.results4]
      exact ret_d hbd h
    have he : encR cs c = true := by rw [Bool.and_eq_true] at hB; exact hB.2
    simp only [dL, isD, go_sem, Bool.not_true, List.length_map, Tryd.results4]
    refine ⟨fun q => ret_d hbd h, fun q => ?_⟩
    simp only [Bool.false_or, Bool.or_eq_false_iff, decide_eq_false_iff_not, Bool.or_eq_true, not_or] at q
    refine Wk.mask [0, 2, 3, 5, 9] ⟨⟨he, ?_, ?_⟩, rfl, rfl⟩
    · omega
    · omega
  rintro fr st ⟨⟨he, ho5, hn5⟩, rfl, rfl⟩
  have E := enc_of he
  cases ht : transM cs c.hyp c.goal [] with
  | none =>
    have hext : extR cs c old now = ([], 2) := by rw [extR, ht]
    refine aw_cut (fun fr st => fr = [.any, .any, .any, .any, .any, .any, .any, .any, .any, db true, .any, di 2, .any, .any, .any, .any, .any, .any, .any, .any, .any, .any, .any, .any, .any, .any, .any, .any, .any, .any, .any, .any, .any, .any, .any, .any, .any, .any, .any, .any, .any, .any, .any, .any, .any, .any, .any, .any, .any, .any, .any, .any, .any, .any, .any, .any, .any, .any, .any, .any, .any, .any, .any, .any, .any, .any, .any, .any, .any, .any, .any, .any, .any, .any, .any, .any, .any, .any, .any, .any, .any, .any, .any, .any, .any, .any, .any, .any, .any, .any, .any, .any, .any, .any, .any, .any, .any, .any, .any, .any, .any, .any, .any, .any, .any, .any, .any, .any, .any, .any, .any, .any, .any, .any, .any, .any, .any, .any, .any, .any, .any, .any, .any, .any, .any, .any, .any, .any, .any, .any, .any, .any, .any, .any, .any, .any, .any, .any, .any, .any, .any, .any, .any, .any, .any, .any, .any, .any, .any, .any, .any, .any, .any, .any, .any, .any, .any, .any, .any, .any, .any, .any, .any, .any] ∧ st = σ) ?_ ?_
    · simp only [go_sem]
      rw [← cndD]
      refine ac' (ext_ac cs c hok he old now ho hn _ _ hG _ ?_)
      rw [hext]
      simp only [go_sem]
      exact Wk.keep [9, 11] [] (by decide) (Nat.le_refl _) hbd ⟨by simp only [go_sem], by simp only [go_sem]⟩
    rintro fr st ⟨rfl, rfl⟩
    simp only [go_sem, Int.reduceBNe, Int.reduceBEq, Tryd.results4]
    exact ret_d0 h
  | some p =>
    obtain ⟨root, gs⟩ := p
    have t := E.tr ht
    have hext : extR cs c old now = (extV cs c.hyp c.goal old now gs, 0) := by rw [extR, ht]
    have hvl : (extV cs c.hyp c.goal old now gs).length = firstV cs c.hyp c.goal + gs.length := ext_len
    have hfit := t.good.fit.1
    have hst := fun i hi => E.states (old := old) (now := now) (gs := gs) (i := i) hi
    have hfo := E.layO_fit
    have hfn := E.layN_fit
    have hlO := E.lO_len
    have hlN := E.lN_len
    have hcl := E.len
    obtain ⟨V, hV⟩ : ∃ V, extV cs c.hyp c.goal old now gs = V := ⟨_, rfl⟩
    rw [hV] at hvl hext
    rw [hV] at hst
    refine aw_cut (fun fr st => fr = [.d (celsD cs), .any, dL old, dL now, .any, .ref σ.length 0, .any, .any, .any, db true, .d (bsD V), di 0, .any, .any, .any, .any, .any, .any, .any, .any, .any, .any, .any, .any, .any, .any, .any, .any, .any, .any, .any, .any, .any, .any, .any, .any, .any, .any, .any, .any, .any, .any, .any, .any, .any, .any, .any, .any, .any, .any, .any, .any, .any, .any, .any, .any, .any, .any, .any, .any, .any, .any, .any, .any, .any, .any, .any, .any, .any, .any, .any, .any, .any, .any, .any, .any, .any, .any, .any, .any, .any, .any, .any, .any, .any, .any, .any, .any, .any, .any, .any, .any, .any, .any, .any, .any, .any, .any, .any, .any, .any, .any, .any, .any, .any, .any, .any, .any, .any, .any, .any, .any, .any, .any, .any, .any, .any, .any, .any, .any, .any, .any, .any, .any, .any, .any, .any, .any, .any, .any, .any, .any, .any, .any, .any, .any, .any, .any, .any, .any, .any, .any, .any, .any, .any, .any, .any, .any, .any, .any, .any, .any, .any, .any, .any, .any, .any, .any, .any, .any, .any, .any, .any, .any] ∧ st = σ ++ [cdO c]) ?_ ?_
    · simp only [go_sem]
      rw [← cndD]
      refine ac' (ext_ac cs c hok he old now ho hn _ _ hG _ ?_)
      rw [hext]
      simp only [go_sem]
      exact Wk.mask [0, 2, 3, 5, 9, 10, 11] ⟨by simp only [go_sem], by simp only [go_sem]⟩
    rintro fr st ⟨rfl, rfl⟩
    simp only [go_sem, Int.reduceBNe, Int.reduceBEq, Tryd.results4]
    rw [← cndD]
    refine ac' (dec_ac cs c hok he V (reach_le (by omega)) _ _ hG _ ?_)
    have hXl := decS_len (cs := cs) (vs := V) (lO cs c.hyp c.goal)
    have hYl := decS_len (cs := cs) (vs := V) (lN cs c.hyp c.goal)
    generalize decS cs (lO cs c.hyp c.goal) V = X at *
    generalize decS cs (lN cs c.hyp c.goal) V = Y at *
    generalize hL : lO cs c.hyp c.goal = L at *
    generalize hM : lN cs c.hyp c.goal = M at *
    simp only [go_sem, Int.reduceBNe, Int.reduceBEq, Tryd.results4]
    refine aw_cut (fun fr st => fr = [.d (celsD cs), .any, dL old, dL now, .any, .any, .any, .any, .any, db true, .any, di 0, dL X, dL Y, dL L, dL M, .any, .any, .any, .any, .any, .any, .any, .any, .any, .any, .any, .any, .any, .any, .any, .any, .any, .any, .any, .any, .any, .any, .any, .any, .any, .any, .any, .any, .any, .any, .any, .any, .any, .any, .any, .any, .any, .any, .any, .any, .any, .any, .any, .any, .any, .any, .any, .any, .any, .any, .any, .any, .any, .any, .any, .any, .any, .any, .any, .any, .any, .any, .any, .any, .any, .any, .any, .any, .any, .any, .any, .any, .any, .any, .any, .any, .any, .any, .any, .any, .any, .any, .any, .any, .any, .any, .any, .any, .any, .any, .any, .any, .any, .any, .any, .any, .any, .any, .any, .any, .any, .any, .any, .any, .any, .any, .any, .any, .any, .any, .any, .any, .any, .any, .any, .any, .any, .any, .any, .any, .any, .any, .any, .any, .any, .any, .any, .any, .any, .any, .any, .any, .any, .any, .any, .any, .any, .any, .any, .any, .any, .any, .any, .any, .any, .any, .any, .any] ∧ st = σ) ?_ ?_
    · simp only [go_sem]
      rw [← cndD]
      refine ac' (lay_ac cs c hok he _ _ hG _ ?_)
      rw [hL, hM]
      simp only [go_sem]
      exact Wk.keep [0, 2, 3, 9, 11, 12, 13, 14, 15] [] (by decide) (Nat.le_refl _) hbd ⟨by simp only [go_sem], by simp only [go_sem]⟩
    rintro fr st ⟨rfl, rfl⟩
    have b0 : ((cs.length : Int) != (cs.length : Int)) = false := by simp
    refine aw_cut (fun fr s2 => fr = [.d (celsD cs), .any, dL old, dL now, .any, .any, .any, .any, .any, db true, .any, .any, dL X, dL Y, dL L, dL M, .any, .any, .any, .any, .any, .any, .any, .any, .any, .any, .any, .any, .any, .any, .any, .any, .any, .any, .any, .any, .any, .any, .any, .any, .any, .any, .any, .any, .any, .any, .any, .any, .any, .any, .any, .any, .any, .any, .any, .any, .any, .any, .any, .any, .any, .any, .any, .any, .any, .any, .any, .any, .any, .any, .any, .any, .any, .any, .any, .any, .any, .any, .any, .any, .any, .any, .any, .any, .any, .any, .any, .any, .any, .any, .any, .any, .any, .any, .any, .any, .any, .any, .any, .any, .any, .any, .any, .any, .any, .any, .any, .any, .any, .any, .any, .any, .any, .any, .any, .any, .any, .any, .any, .any, .any, .any, .any, .any, .any, .any, .any, .any, .any, .any, .any, .any, .any, .any, .any, .any, .any, .any, .any, .any, .any, .any, .any, .any, .any, .any, .any, .any, .any, .any, .any, .any, .any, .any, .any, .any, .any, .any, .any, .any, .any, .any, .any, .any] ∧ s2 = st) ?_ ?_
    · simp only [dL, isD, celsD, go_sem, List.length_map, hXl, hYl, hlO, hlN, b0, Int.reduceBNe, Int.reduceBEq, Tryd.results4]
      exact Wk.mask [0, 2, 3, 9, 12, 13, 14, 15] ⟨by simp only [go_sem], rfl⟩
    rintro fr s2 ⟨rfl, rfl⟩
    simp only [dL, isD, celsD, go_sem]
    refine aw_loop (fun m fr st => ∃ j : Nat, j ≤ cs.length ∧ m = cs.length - j ∧ fr = [.d (.sl 6 (cs.map celD)), .any, .d (.sl 1 (old.map iD)), .d (.sl 1 (now.map iD)), .any, .any, .any, .any, .any, db true, .any, .any, .d (.sl 1 (X.map iD)), .d (.sl 1 (Y.map iD)), .d (.sl 1 (L.map iD)), .d (.sl 1 (M.map iD)), dn j, .any, .any, .any, .any, .any, .any, .any, .any, .any, .any, .any, .any, .any, .any, .any, .any, .any, .any, .any, .any, .any, .any, .any, .any, .any, .any, .any, .any, .any, .any, .any, .any, .any, .any, .any, .any, .any, .any, .any, .any, .any, .any, .any, .any, .any, .any, .any, .any, .any, .any, .any, .any, .any, .any, .any, .any, .any, .any, .any, .any, .any, .any, .any, .any, .any, .any, .any, .any, .any, .any, .any, .any, .any, .any, .any, .any, .any, .any, .any, .any, .any, .any, .any, .any, .any, .any, .any, .any, .any, .any, .any, .any, .any, .any, .any, .any, .any, .any, .any, .any, .any, .any, .any, .any, .any, .any, .any, .any, .any, .any, .any, .any, .any, .any, .any, .any, .any, .any, .any, .any, .any, .any, .any, .any, .any, .any, .any, .any, .any, .any, .any, .any, .any, .any, .any, .any, .any, .any, .any, .any, .any, .any, .any, .any, .any, .any, .any] ∧ st = s2) cs.length _ (Wk.mask [0, 2, 3, 9, 12, 13, 14, 15, 16] ⟨0, by omega, rfl, rfl, rfl⟩) ?_
    rintro m fr st ⟨j, hj, hm, rfl, rfl⟩
    rcases Nat.lt_or_ge j cs.length with hlt | hge
    · have hd : decide ((j : Int) < (cs.length : Int)) = true := by simp; omega
      obtain ⟨x1, x2⟩ := hst j hlt
      simp only [go_sem, hd, List.length_map, Tryd.results4]
      have e2 := celD_at (l := cs) (j := j) (by omega)
      simp only [celD] at e2
      have e3 : (cs.getD j cel0).w = wOf cs j := rfl
      rw [e3] at e2
      obtain ⟨Z, hZ⟩ : ∃ Z, (if L.getD j 0 = 0 then (cs.getD j cel0).init else ((lowb (old.getD j 0) (wOf cs j).toNat : Nat) : Int)) = Z := ⟨_, rfl⟩
      obtain ⟨T, hT⟩ : ∃ T, (if M.getD j 0 = 0 then (cs.getD j cel0).init else ((lowb (now.getD j 0) (wOf cs j).toNat : Nat) : Int)) = T := ⟨_, rfl⟩
      rw [hZ] at x1
      rw [hT] at x2
      refine aw_cut (fun fr s3 => fr = [.d (.sl 6 (cs.map celD)), .any, .d (.sl 1 (old.map iD)), .d (.sl 1 (now.map iD)), .any, .any, .any, .any, .any, db true, .any, .any, .d (.sl 1 (X.map iD)), .d (.sl 1 (Y.map iD)), .d (.sl 1 (L.map iD)), .d (.sl 1 (M.map iD)), dn j, di (old.getD j 0), di 0, .any, .any, .any, .any, .any, .any, .any, .any, .any, .any, .any, .any, .any, .any, .any, .any, .any, .any, .any, .any, .any, .any, .any, .any, .any, .any, .any, .any, .any, .any, .any, .any, .any, .any, .any, .any, .any, .any, .any, .any, .any, .any, .any, .any, .any, .any, .any, .any, .any, .any, .any, .any, .any, .any, .any, .any, .any, .any, .any, .any, .any, .any, .any, .any, .any, .any, .any, .any, .any, .any, .any, .any, .any, .any, .any, .any, .any, .any, .any, .any, .any, .any, .any, .any, .any, .any, .any, .any, .any, .any, .any, .any, .any, .any, .any, .any, .any, .any, .any, .any, .any, .any, .any, .any, .any, .any, .any, .any, .any, .any, .any, .any, .any, .any, .any, .any, .any, .any, .any, .any, .any, .any, .any, .any, .any, .any, .any, .any, .any, .any, .any, .any, .any, .any, .any, .any, .any, .any, .any, .any, .any, .any, .any, .any, .any] ∧ st = s3) ?_ ?_
      · simp only [go_sem, List.length_map, Tryd.results4]
        refine ⟨fun q => ?_, fun q => ?_⟩
        · have q : j < old.length := by simpa using q
          have e1 := getD_isD (l := old) (j := j) q
          simp only [go_sem, e1, List.length_map, Int.toNat_natCast, Tryd.results4]
          exact ⟨⟨by omega, by omega⟩, Wk.mask [0, 2, 3, 9, 12, 13, 14, 15, 16, 17, 18] ⟨rfl, rfl⟩⟩
        · have q : ¬ j < old.length := by simpa using q
          have e1 : old.getD j 0 = 0 := getD_over (by omega)
          rw [e1]
          exact Wk.mask [0, 2, 3, 9, 12, 13, 14, 15, 16, 17, 18] ⟨rfl, rfl⟩
      rintro fr s3 ⟨rfl, rfl⟩
      refine aw_cut (fun fr s3 => fr = [.d (.sl 6 (cs.map celD)), .any, .d (.sl 1 (old.map iD)), .d (.sl 1 (now.map iD)), .any, .any, .any, .any, .any, db true, .any, .any, .d (.sl 1 (X.map iD)), .d (.sl 1 (Y.map iD)), .d (.sl 1 (L.map iD)), .d (.sl 1 (M.map iD)), dn j, di (old.getD j 0), di (now.getD j 0), .any, .any, .any, .any, .any, .any, .any, .any, .any, .any, .any, .any, .any, .any, .any, .any, .any, .any, .any, .any, .any, .any, .any, .any, .any, .any, .any, .any, .any, .any, .any, .any, .any, .any, .any, .any, .any, .any, .any, .any, .any, .any, .any, .any, .any, .any, .any, .any, .any, .any, .any, .any, .any, .any, .any, .any, .any, .any, .any, .any, .any, .any, .any, .any, .any, .any, .any, .any, .any, .any, .any, .any, .any, .any, .any, .any, .any, .any, .any, .any, .any, .any, .any, .any, .any, .any, .any, .any, .any, .any, .any, .any, .any, .any, .any, .any, .any, .any, .any, .any, .any, .any, .any, .any, .any, .any, .any, .any, .any, .any, .any, .any, .any, .any, .any, .any, .any, .any, .any, .any, .any, .any, .any, .any, .any, .any, .any, .any, .any, .any, .any, .any, .any, .any, .any, .any, .any, .any, .any, .any, .any, .any, .any, .any, .any] ∧ st = s3) ?_ ?_
      · simp only [go_sem, List.length_map, Tryd.results4]
        refine ⟨fun q => ?_, fun q => ?_⟩
        · have q : j < now.length := by simpa using q
          have e1 := getD_isD (l := now) (j := j) q
          simp only [go_sem, e1, List.length_map, Int.toNat_natCast, Tryd.results4]
          exact ⟨⟨by omega, by omega⟩, Wk.mask [0, 2, 3, 9, 12, 13, 14, 15, 16, 17, 18] ⟨rfl, rfl⟩⟩
        · have q : ¬ j < now.length := by simpa using q
          have e1 : now.getD j 0 = 0 := getD_over (by omega)
          rw [e1]
          exact Wk.mask [0, 2, 3, 9, 12, 13, 14, 15, 16, 17, 18] ⟨rfl, rfl⟩
      rintro fr s3 ⟨rfl, rfl⟩
      refine aw_cut (fun fr s3 => fr = [.d (.sl 6 (cs.map celD)), .any, .d (.sl 1 (old.map iD)), .d (.sl 1 (now.map iD)), .any, .any, .any, .any, .any, db true, .any, .any, .d (.sl 1 (X.map iD)), .d (.sl 1 (Y.map iD)), .d (.sl 1 (L.map iD)), .d (.sl 1 (M.map iD)), dn j, di Z, di (now.getD j 0), .any, .any, .any, .any, .any, .any, .any, .any, .any, .any, .any, .any, .any, .any, .any, .any, .any, .any, .any, .any, .any, .any, .any, .any, .any, .any, .any, .any, .any, .any, .any, .any, .any, .any, .any, .any, .any, .any, .any, .any, .any, .any, .any, .any, .any, .any, .any, .any, .any, .any, .any, .any, .any, .any, .any, .any, .any, .any, .any, .any, .any, .any, .any, .any, .any, .any, .any, .any, .any, .any, .any, .any, .any, .any, .any, .any, .any, .any, .any, .any, .any, .any, .any, .any, .any, .any, .any, .any, .any, .any, .any, .any, .any, .any, .any, .any, .any, .any, .any, .any, .any, .any, .any, .any, .any, .any, .any, .any, .any, .any, .any, .any, .any, .any, .any, .any, .any, .any, .any, .any, .any, .any, .any, .any, .any, .any, .any, .any, .any, .any, .any, .any, .any, .any, .any, .any, .any, .any, .any, .any, .any, .any, .any, .any, .any] ∧ st = s3) ?_ ?_
      · have e1 := getD_isD (l := L) (j := j) (by omega)
        simp only [go_sem, e1, List.length_map, Int.toNat_natCast, Tryd.results4]
        refine ⟨⟨by omega, by omega⟩, fun q => ?_, fun q => ?_⟩
        · have q : L.getD j 0 = 0 := by simpa using q
          have eZ : Z = (cs.getD j cel0).init := by rw [← hZ, if_pos q]
          rw [eZ]
          simp only [go_sem, e2, List.length_map, Int.toNat_natCast, Nat.mul_one, Tryd.results4]
          exact ⟨⟨by omega, by omega⟩, Wk.mask [0, 2, 3, 9, 12, 13, 14, 15, 16, 17, 18] ⟨rfl, rfl⟩⟩
        · have q : ¬ L.getD j 0 = 0 := by simpa using q
          obtain ⟨_, _, p3, p4⟩ := hfo j hlt q
          obtain ⟨W, hW⟩ : ∃ W : Nat, wOf cs j = W := ⟨(wOf cs j).toNat, by omega⟩
          have eZ : Z = (lowb (old.getD j 0) W : Nat) := by rw [← hZ, if_neg q, hW, Int.toNat_natCast]
          rw [eZ]
          rw [hW] at e2
          simp only [go_sem, e2, List.length_map, Int.toNat_natCast, Nat.mul_one, Tryd.results4]
          refine ⟨⟨by omega, by omega⟩, ac' (pow_ac W (by omega) _ _ _ ?_)⟩
          have hbm := bAnd_mask (old.getD j 0) (w := W) (by omega)
          have hp2 := pow_le8 (w := W) (by omega)
          have hp1 := Nat.two_pow_pos W
          have hw1 : IntKind.i64.wrap (((2 ^ W : Nat) : Int) - 1) = ((2 ^ W : Nat) : Int) - 1 := wrap64_id _ (by omega) (by omega)
          simp only [go_sem, hw1, hbm, Tryd.results4]
          exact Wk.mask [0, 2, 3, 9, 12, 13, 14, 15, 16, 17, 18] ⟨rfl, rfl⟩
      rintro fr s3 ⟨rfl, rfl⟩
      refine aw_cut (fun fr s3 => fr = [.d (.sl 6 (cs.map celD)), .any, .d (.sl 1 (old.map iD)), .d (.sl 1 (now.map iD)), .any, .any, .any, .any, .any, db true, .any, .any, .d (.sl 1 (X.map iD)), .d (.sl 1 (Y.map iD)), .d (.sl 1 (L.map iD)), .d (.sl 1 (M.map iD)), dn j, di Z, di T, .any, .any, .any, .any, .any, .any, .any, .any, .any, .any, .any, .any, .any, .any, .any, .any, .any, .any, .any, .any, .any, .any, .any, .any, .any, .any, .any, .any, .any, .any, .any, .any, .any, .any, .any, .any, .any, .any, .any, .any, .any, .any, .any, .any, .any, .any, .any, .any, .any, .any, .any, .any, .any, .any, .any, .any, .any, .any, .any, .any, .any, .any, .any, .any, .any, .any, .any, .any, .any, .any, .any, .any, .any, .any, .any, .any, .any, .any, .any, .any, .any, .any, .any, .any, .any, .any, .any, .any, .any, .any, .any, .any, .any, .any, .any, .any, .any, .any, .any, .any, .any, .any, .any, .any, .any, .any, .any, .any, .any, .any, .any, .any, .any, .any, .any, .any, .any, .any, .any, .any, .any, .any, .any, .any, .any, .any, .any, .any, .any, .any, .any, .any, .any, .any, .any, .any, .any, .any, .any, .any, .any, .any, .any, .any, .any] ∧ st = s3) ?_ ?_
      · have e1 := getD_isD (l := M) (j := j) (by omega)
        simp only [go_sem, e1, List.length_map, Int.toNat_natCast, Tryd.results4]
        refine ⟨⟨by omega, by omega⟩, fun q => ?_, fun q => ?_⟩
        · have q : M.getD j 0 = 0 := by simpa using q
          have eZ : T = (cs.getD j cel0).init := by rw [← hT, if_pos q]
          rw [eZ]
          simp only [go_sem, e2, List.length_map, Int.toNat_natCast, Nat.mul_one, Tryd.results4]
          exact ⟨⟨by omega, by omega⟩, Wk.mask [0, 2, 3, 9, 12, 13, 14, 15, 16, 17, 18] ⟨rfl, rfl⟩⟩
        · have q : ¬ M.getD j 0 = 0 := by simpa using q
          obtain ⟨_, _, p3, p4⟩ := hfn j hlt q
          obtain ⟨W, hW⟩ : ∃ W : Nat, wOf cs j = W := ⟨(wOf cs j).toNat, by omega⟩
          have eZ : T = (lowb (now.getD j 0) W : Nat) := by rw [← hT, if_neg q, hW, Int.toNat_natCast]
          rw [eZ]
          rw [hW] at e2
          simp only [go_sem, e2, List.length_map, Int.toNat_natCast, Nat.mul_one, Tryd.results4]
          refine ⟨⟨by omega, by omega⟩, ac' (pow_ac W (by omega) _ _ _ ?_)⟩
          have hbm := bAnd_mask (now.getD j 0) (w := W) (by omega)
          have hp2 := pow_le8 (w := W) (by omega)
          have hp1 := Nat.two_pow_pos W
          have hw1 : IntKind.i64.wrap (((2 ^ W : Nat) : Int) - 1) = ((2 ^ W : Nat) : Int) - 1 := wrap64_id _ (by omega) (by omega)
          simp only [go_sem, hw1, hbm, Tryd.results4]
          exact Wk.mask [0, 2, 3, 9, 12, 13, 14, 15, 16, 17, 18] ⟨rfl, rfl⟩
      rintro fr s3 ⟨rfl, rfl⟩
      have e5 := getD_isD (l := X) (j := j) (by omega)
      have e6 := getD_isD (l := Y) (j := j) (by omega)
      have w1 := wrapS j (by omega)
      have n1 : (Z != Z) = false := by simp
      have n2 : (T != T) = false := by simp
      rw [x1] at e5
      rw [x2] at e6
      simp only [go_sem, e5, e6, n1, n2, w1, List.length_map, Int.toNat_natCast, Tryd.results4]
      exact ⟨⟨by omega, by omega⟩, ⟨by omega, by omega⟩, Wk.mask [0, 2, 3, 9, 12, 13, 14, 15, 16] ⟨cs.length - (j + 1), by omega, j + 1, hlt, rfl, rfl, rfl⟩⟩
    · have hd : decide ((j : Int) < (cs.length : Int)) = false := by simp; omega
      simp only [go_sem, hd, List.length_map, Tryd.results4]
      exact ret_d0 h
end Go.Proofs.YtkjlefahpdconaaDoor
end PartD5

section PartD6
/- Folding: plain facts; the closure that negates. -/
set_option linter.unusedSimpArgs false
set_option linter.unusedVariables false
set_option maxRecDepth 100000
namespace Go.Proofs.YtkjlefahpdconaaDoor
open Go Go.Ab

def kX (n : Int) : Ex := .mk 1 1 n []
theorem kX_d (n : Int) : (kX n).d = .agg [iD 1, iD 1, iD n, .sl 4 []] := by rw [Ex.d_eq]; rfl
theorem occ_false {cs : List Cel} {h g : Ex} {o : Int} (hn : ∀ n ∈ h.lvs ++ g.lvs, n.op ≠ o) : occB cs h g o = List.replicate cs.length false := by
  apply List.ext_getElem (by simp [occB])
  intro i h1 h2
  simp only [occB, List.getElem_map, List.getElem_range, List.getElem_replicate]
  rw [List.any_eq_false]
  intro n hm
  have := hn n hm
  simp [this]
theorem place_false : ∀ (n : Nat) (cs : List Cel) (m : Nat), (placeL (List.replicate n false) cs m).2 = m
  | 0, cs, m => rfl
  | n + 1, cs, m => by simp only [List.replicate_succ, placeL]; exact place_false n _ _
theorem first_const (cs : List Cel) (a b : Int) : firstV cs (kX a) (kX b) = 1 := by
  have hl : ∀ o : Int, o ≠ 1 → ∀ n ∈ (kX a).lvs ++ (kX b).lvs, n.op ≠ o := by
    intro o ho n hn
    rw [show (kX a).lvs ++ (kX b).lvs = [kX a, kX b] by rw [Ex.lvs_leaf rfl, Ex.lvs_leaf rfl]; rfl] at hn
    simp only [List.mem_cons, List.not_mem_nil, or_false] at hn
    rcases hn with rfl | rfl <;> exact fun e => ho e.symm
  simp only [firstV, layN, layO, occ_false (hl 2 (by decide)), occ_false (hl 3 (by decide)), place_false]
theorem trans_const (cs : List Cel) : transM cs (kX 1) (kX 0) [] = some (1, []) := rfl
theorem neg_const (cs : List Cel) : negR cs (cdA (kX 1) (kX 0)) = (⟨1, [[1], [1]]⟩, 0) := by
  rw [negR, trans_const, first_const]; rfl
theorem kX_formed1 : (kX 1).formed = true := by kernel_rfl
theorem kX_formed0 : (kX 0).formed = true := by kernel_rfl
theorem kX_over (n : Int) (cs : List Cel) : (kX n).over cs true = true := by
  simp [Ex.over, overL, Ex.overN, kX, Ex.op, Ex.n, Ex.w, Ex.kids]
theorem enc_const {cs : List Cel} (h : cs.length ≤ 32) : encR cs (cdA (kX 1) (kX 0)) = true :=
  encR_iff.2 ⟨h, ⟨kX_formed1, kX_over _ _⟩, ⟨kX_formed0, kX_over _ _⟩, rfl, rfl⟩
theorem enc_one {cs : List Cel} {c : Cnd} (h : encR cs c = true) : encR cs (cdA c.hyp (kX 1)) = true := by
  obtain ⟨h1, h2, h3, h4, h5⟩ := encR_iff.1 h
  exact encR_iff.2 ⟨h1, h2, ⟨kX_formed1, kX_over _ _⟩, h4, rfl⟩
def notX (e : Ex) : Ex := .mk 4 1 0 [e]
theorem notX_d (e : Ex) : (notX e).d = .agg [iD 4, iD 1, iD 0, .sl 4 [e.d]] := by rw [Ex.d_eq]; rfl
theorem not_ac (e : Ex) (σ : St) (G : Glob) (R : A → St → Prop) (h : R (.d (notX e).d) σ) : AC Tryd.prog G 24 [.d e.d] σ R := by
  rw [notX_d, Ex.d_eq e] at h
  rw [Ex.d_eq]
  refine ac_enter mixed Tryd.func24 rfl Tryd.ntmps24 (by simp only [go_sem]) fun hbd => ?_
  simp only [List.length_cons, List.length_nil, Nat.reduceAdd, Nat.reduceSub, List.replicate_succ, List.replicate_zero, List.cons_append, List.nil_append]
  simp only [go_sem, Tryd.results24]
  refine ret_w (Weak.deep [2] 6) ?_
  simp only [go_sem]
  exact ret_bd hbd rfl h
/-- What negating comes to. -/
theorem neg_cases {cs : List Cel} {c : Cnd} (he : encR cs c = true) : (∃ root gs, transM cs c.hyp c.goal [] = some (root, gs) ∧ negR cs c = (negF (firstV cs c.hyp c.goal) (root, gs), 0) ∧ ∀ old now, extR cs c old now = (extV cs c.hyp c.goal old now gs, 0)) ∨ (transM cs c.hyp c.goal [] = none ∧ negR cs c = (⟨0, []⟩, 2) ∧ ∀ old now, extR cs c old now = ([], 2)) := by
  cases ht : transM cs c.hyp c.goal [] with
  | none => exact .inr ⟨rfl, by rw [negR, ht], fun old now => by rw [extR, ht]⟩
  | some p => exact .inl ⟨p.1, p.2, rfl, by rw [negR, ht], fun old now => by rw [extR, ht]⟩
theorem neg_sizes {cs : List Cel} {c : Cnd} (he : encR cs c = true) : (negR cs c).1.cls.length ≤ 40000 ∧ ∀ x ∈ (negR cs c).1.cls, x.length ≤ 3 := by
  rcases neg_cases he with ⟨root, gs, ht, hn, -⟩ | ⟨-, hn, -⟩ <;> rw [hn]
  · exact ⟨((enc_of he).tr ht).len, neg_short⟩
  · exact ⟨by simp, by simp⟩
end Go.Proofs.YtkjlefahpdconaaDoor
end PartD6
