import Derived.Test.YtkjlefahpdconaaDoorX36

section PartD2
/- The law package's fixed examples. -/
set_option linter.unusedSimpArgs false
set_option linter.unusedVariables false
set_option maxRecDepth 100000
namespace Go.Proofs.YtkjlefahpdconaaDoor
open Go Go.Ab

def yX : Ex := .mk 2 1 1 []
def zX : Ex := .mk 3 1 1 []
abbrev exA (o w n : Int) (k : List D) : Option Ob := some (.cells [di o, di w, di n, .d (.sl 4 k)])
def emC : List UInt8 := []
abbrev cdA (h g : Ex) : Cnd := ⟨[], 0, 0, 0, 0, 0, h, g⟩
theorem yX_d : yX.d = .agg [iD 2, iD 1, iD 1, .sl 4 []] := by rw [Ex.d_eq]; rfl
theorem zX_d : zX.d = .agg [iD 3, iD 1, iD 1, .sl 4 []] := by rw [Ex.d_eq]; rfl
theorem cs1_d : celsD cs1 = .sl 6 [.agg [.str [120], iD 2, iD 1, iD (-1), .bool false, iD 0], .agg [.str [121], iD 1, iD 0, iD (-1), .bool false, iD 0]] := rfl
def oX : Ex := .mk 1 1 0 []
theorem oX_d : oX.d = .agg [iD 1, iD 1, iD 0, .sl 4 []] := by rw [Ex.d_eq]; rfl
theorem neg1 : negR cs1 (cdA yX oX) = (⟨2, [[1], [2]]⟩, 0) := by kernel_rfl
theorem enc1 : encR cs1 (cdA yX oX) = true := by kernel_rfl
theorem ok0 (o w n : Int) : (Ex.mk o w n []).Ok := .mk (by simp [Ex.kids]) (by simp [Ex.kids])
theorem ok1 (o w n : Int) {k : Ex} (h : k.Ok) : (Ex.mk o w n [k]).Ok := .mk (by simp [Ex.kids, reachBytes]) (by simp [Ex.kids, h])
theorem ok2 (o w n : Int) {k l : Ex} (h : k.Ok) (h' : l.Ok) : (Ex.mk o w n [k, l]).Ok := .mk (by simp [Ex.kids, reachBytes]) (by simp [Ex.kids, h, h'])
def c2 : Cnd := cdA (.mk 4 1 0 [zX]) yX
abbrev oc2 : Option Ob := some (.cells [.d (.str []), di 0, di 0, di 0, di 0, di 0, di 4, di 1, di 0, .d (.sl 4 [.agg [iD 3, iD 1, iD 1, .sl 4 []]]), di 2, di 1, di 1, .d (.sl 4 [])])
def F2 : List (List Int) := [[1], [-4, -2], [-4, -3], [4, 2, 3], [4]]
abbrev oc3 : Option Ob := some (.cells [di 4, .d (clsD F2)])
theorem neg2 : negR cs1 c2 = (⟨4, F2⟩, 0) := by kernel_rfl
theorem enc2 : encR cs1 c2 = true := by kernel_rfl
theorem ok2c : c2.Ok := ⟨ok1 _ _ _ (ok0 _ _ _), ok0 _ _ _⟩
theorem c2_d : cndD c2 = .agg [.str [], iD 0, iD 0, iD 0, iD 0, iD 0, iD 4, iD 1, iD 0, .sl 4 [.agg [iD 3, iD 1, iD 1, .sl 4 []]], iD 2, iD 1, iD 1, .sl 4 []] := by
  rw [← zX_d]; rfl
def V2 : List Bool := [true, false, true, false]
theorem ext2 : extR cs1 c2 [0, 0] [0, 1] = (V2, 0) := by kernel_rfl
theorem dec2 : (A.tup [dL (decS cs1 (lO cs1 c2.hyp c2.goal) [true, true, false, false]), dL (decS cs1 (lN cs1 c2.hyp c2.goal) [true, true, false, false])]) = .tup [dL [1, 1], dL [1, 0]] := by
  rw [show decS cs1 (lO cs1 c2.hyp c2.goal) [true, true, false, false] = [1, 1] by kernel_rfl, show decS cs1 (lN cs1 c2.hyp c2.goal) [true, true, false, false] = [1, 0] by kernel_rfl]
theorem lay2 : (A.tup [dL (lO cs1 c2.hyp c2.goal), dL (lN cs1 c2.hyp c2.goal)]) = .tup [dL [0, 2], dL [0, 3]] := by
  rw [show lO cs1 c2.hyp c2.goal = [0, 2] by kernel_rfl, show lN cs1 c2.hyp c2.goal = [0, 3] by kernel_rfl]
def eqX : Ex := .mk 11 1 0 [.mk 3 2 0 [], .mk 2 2 0 []]
def eqK : List D := [.agg [iD 3, iD 2, iD 0, .sl 4 []], .agg [iD 2, iD 2, iD 0, .sl 4 []]]
theorem eqX_d : eqX.d = .agg [iD 11, iD 1, iD 0, .sl 4 eqK] := by
  simp only [eqX, eqK, Ex.d, Ex.ds]
abbrev oeq : Option Ob := exA 11 1 0 eqK
def F3 : List (List Int) := [[1], [-6, 2, 4], [-6, -2, -4], [6, -2, 4], [6, 2, -4], [-7, 3, 5], [-7, -3, -5], [7, -3, 5], [7, 3, -5], [-8, -6], [-8, -7], [8, 6, 7], [-8]]
def c3 : Cnd := cdA (.mk 1 1 1 []) eqX
theorem neg3 : negR cs1 c3 = (⟨8, F3⟩, 0) := by kernel_rfl
theorem enc3 : encR cs1 c3 = true := by kernel_rfl
theorem eqX_ok : eqX.Ok := ok2 _ _ _ (ok0 _ _ _) (ok0 _ _ _)
theorem ok3c : c3.Ok := ⟨ok0 _ _ _, eqX_ok⟩
theorem c3_d : cndD c3 = .agg [.str [], iD 0, iD 0, iD 0, iD 0, iD 0, iD 1, iD 1, iD 1, .sl 4 [], iD 11, iD 1, iD 0, .sl 4 eqK] := by
  have : eqX.kids.map Ex.d = eqK := by simp only [eqX, eqK, Ex.kids, Ex.d, Ex.ds, List.map_cons, List.map_nil]
  rw [← this]; rfl
def c4 : Cnd := cdA eqX (.mk 3 2 0 [])
theorem ok4c : c4.Ok := ⟨eqX_ok, ok0 _ _ _⟩
theorem c4_d : cndD c4 = .agg [.str [], iD 0, iD 0, iD 0, iD 0, iD 0, iD 11, iD 1, iD 0, .sl 4 eqK, iD 3, iD 2, iD 0, .sl 4 []] := by
  have : eqX.kids.map Ex.d = eqK := by simp only [eqX, eqK, Ex.kids, Ex.d, Ex.ds, List.map_cons, List.map_nil]
  rw [← this]; rfl
abbrev oc5 : Option Ob := some (.cells [di 8, .d (clsD F3)])
theorem oneX_d : (Ex.mk 1 1 1 []).d = .agg [iD 1, iD 1, iD 1, .sl 4 []] := by rw [Ex.d_eq]; rfl
theorem old2_d : (Ex.mk 3 2 0 []).d = .agg [iD 3, iD 2, iD 0, .sl 4 []] := by rw [Ex.d_eq]; rfl
set_option maxHeartbeats 40000000 in
theorem head_ac (σ : St) (G : Glob) (hG : G.g 0 = some masksD) (R : A → St → Prop) (h : R (db true) σ) : AC Tryd.prog G 9 [] σ R := by
  refine ac_enterC' [2, 3, 4, 5, 6, 7, 8, 9, 10, 11, 12, 13, 14, 15, 16, 17, 18] mixed Tryd.func9 rfl Tryd.ntmps9 (by simp only [go_sem]) fun hbd => ?_
  simp only [List.length_cons, List.length_nil, Nat.reduceAdd, Nat.reduceSub, List.replicate_succ, List.replicate_zero, List.cons_append, List.nil_append]
  simp only [go_sem]
  refine aw_cut (fun fr st => fr = [db false, .d (celsD cs1), .any, .any, .any, .any, .any, .any, .any, .any, .any, .any, .any, .any, .any, .any, .any, .any, .any, .any, .any, .any, .any, .any, .any, .any, .any, .any, .any, .any, .any, .any, .any, .any, .any, .any, .any, .any, .any, .any, .any, .any, .any, .any, .any, .any, .any, .any, .any, .any, .any, .any, .any, .any, .any, .any, .any, .any, .any, .any, .any, .any, .any, .any, .any, .any, .any, .any, .any, .any, .any, .any, .any, .any, .any, .any, .any, .any, .any, .any, .any, .any, .any, .any, .any, .any, .any, .any, .any, .any, .any, .any, .any, .any, .any, .any, .any, .any, .any, .any, .any, .any, .any, .any, .any, .any, .any, .any, .any, .any, .any, .any, .any, .any, .any, .any, .any, .any, .any, .any, .any, .any, .any, .any, .any, .any, .any, .any, .any, .any, .any, .any, .any, .any, .any, .any, .any, .any, .any, .any, .any, .any, .any, .any, .any, .any, .any, .any, .any, .any, .any, .any, .any, .any, .any, .any, .any, .any, .any, .any, .any, .any, .any, .any, .any, .any, .any, .any, .any, .any, .any, .any, .any, .any, .any, .any, .any, .any, .any, .any, .any, .any, .any, .any, .any, .any, .any, .any, .any, .any, .any, .any, .any, .any, .any, .any, .any, .any, .any, .any, .any, .any, .any, .any, .any, .any, .any, .any, .any, .any, .any, .any, .any, .any, .any, .any, .any, .any, .any, .any, .any, .any] ∧ st = σ) ?_ ?_
  · simp only [go_sem]
    refine Wk.pre [0, 1] ?_
    refine Wk.deep [0] 6 ?_
    simp only [go_sem]
    exact Wk.keep [0, 1] [] (by decide) (Nat.le_refl _) hbd ⟨rfl, by simp only [go_sem]⟩
  rintro fr st ⟨rfl, rfl⟩
  refine aw_cut (fun fr s2 => fr = [db false, .d (celsD cs1), .ref st.length 0, .ref (st.length + 1) 0, .any, .any, .any, .any, .any, .any, .any, .any, .any, .any, .any, .any, .any, .any, .any, .any, .any, .any, .any, .any, .any, .any, .any, .any, .any, .any, .any, .any, .any, .any, .any, .any, .any, .any, .any, .any, .any, .any, .any, .any, .any, .any, .any, .any, .any, .any, .any, .any, .any, .any, .any, .any, .any, .any, .any, .any, .any, .any, .any, .any, .any, .any, .any, .any, .any, .any, .any, .any, .any, .any, .any, .any, .any, .any, .any, .any, .any, .any, .any, .any, .any, .any, .any, .any, .any, .any, .any, .any, .any, .any, .any, .any, .any, .any, .any, .any, .any, .any, .any, .any, .any, .any, .any, .any, .any, .any, .any, .any, .any, .any, .any, .any, .any, .any, .any, .any, .any, .any, .any, .any, .any, .any, .any, .any, .any, .any, .any, .any, .any, .any, .any, .any, .any, .any, .any, .any, .any, .any, .any, .any, .any, .any, .any, .any, .any, .any, .any, .any, .any, .any, .any, .any, .any, .any, .any, .any, .any, .any, .any, .any, .any, .any, .any, .any, .any, .any, .any, .any, .any, .any, .any, .any, .any, .any, .any, .any, .any, .any, .any, .any, .any, .any, .any, .any, .any, .any, .any, .any, .any, .any, .any, .any, .any, .any, .any, .any, .any, .any, .any, .any, .any, .any, .any, .any, .any, .any, .any, .any, .any, .any, .any, .any, .any, .any, .any, .any, .any, .any] ∧ s2 = st ++ [exA 2 1 1 [], exA 3 1 1 []]) ?_ ?_
  · simp only [go_sem]
    refine ac' (cell_ac _ _ _ _ _ ?_)
    rw [show Ex.mk 2 1 1 [] = yX from rfl, yX_d]
    simp only [go_sem, Tryd.results9]
    refine ac' (old_ac _ _ _ _ _ ?_)
    rw [show Ex.mk 3 1 1 [] = zX from rfl, zX_d]
    simp only [go_sem, Tryd.results9]
    exact Wk.mask [0, 1, 2, 3] ⟨rfl, rfl⟩
  rintro fr st' ⟨rfl, rfl⟩
  refine aw_cut (fun fr s2 => fr = [db false, .d (celsD cs1), .ref st.length 0, .ref (st.length + 1) 0, .ref (st.length + 2) 0, di 0, .any, .any, .any, .any, .any, .any, .any, .any, .any, .any, .any, .any, .any, .any, .any, .any, .any, .any, .any, .any, .any, .any, .any, .any, .any, .any, .any, .any, .any, .any, .any, .any, .any, .any, .any, .any, .any, .any, .any, .any, .any, .any, .any, .any, .any, .any, .any, .any, .any, .any, .any, .any, .any, .any, .any, .any, .any, .any, .any, .any, .any, .any, .any, .any, .any, .any, .any, .any, .any, .any, .any, .any, .any, .any, .any, .any, .any, .any, .any, .any, .any, .any, .any, .any, .any, .any, .any, .any, .any, .any, .any, .any, .any, .any, .any, .any, .any, .any, .any, .any, .any, .any, .any, .any, .any, .any, .any, .any, .any, .any, .any, .any, .any, .any, .any, .any, .any, .any, .any, .any, .any, .any, .any, .any, .any, .any, .any, .any, .any, .any, .any, .any, .any, .any, .any, .any, .any, .any, .any, .any, .any, .any, .any, .any, .any, .any, .any, .any, .any, .any, .any, .any, .any, .any, .any, .any, .any, .any, .any, .any, .any, .any, .any, .any, .any, .any, .any, .any, .any, .any, .any, .any, .any, .any, .any, .any, .any, .any, .any, .any, .any, .any, .any, .any, .any, .any, .any, .any, .any, .any, .any, .any, .any, .any, .any, .any, .any, .any, .any, .any, .any, .any, .any, .any, .any, .any, .any, .any, .any, .any, .any, .any, .any, .any, .any, .any] ∧ s2 = st ++ [exA 2 1 1 [], exA 3 1 1 [], some (.cells [di 2, .d (clsD [[1], [2]])])]) ?_ ?_
  · simp only [go_sem]
    refine aw_plan (.take 0 <| .pure 2 <| .take 1 <| .take 3 <| .alt 4 (.tk 6 5 <| .done) <| .alt 8 (.tk 4 4 <| .tk 2 9 <| .done) <| .stop) (by kernel_rfl) ?_
    simp only [go_sem]
    refine exP (.d oX.d) ⟨fun σ' => ac' (const_ac _ _ _ _ _ ⟨rfl, rfl⟩), ?_⟩
    rw [oX_d]
    simp only [go_sem, Tryd.results9]
    refine ⟨?_, ?_⟩
    · refine ac' (neg_ac cs1 (cdA yX oX) ⟨ok0 _ _ _, ok0 _ _ _⟩ enc1 _ _ hG _ ?_)
      rw [neg1]
      simp only [cnfD, go_sem, Tryd.results9]
      exact Wk.mask [0, 1, 2, 3, 4, 5] ⟨rfl, rfl⟩
    · refine ac' (neg_ac cs1 (cdA yX oX) ⟨ok0 _ _ _, ok0 _ _ _⟩ enc1 _ _ hG _ ?_)
      rw [neg1]
      simp only [cnfD, go_sem, Tryd.results9]
      exact Wk.mask [0, 1, 2, 3, 4, 5] ⟨rfl, rfl⟩
  rintro fr st' ⟨rfl, rfl⟩
  refine aw_cut (fun fr s2 => fr = [db false, .d (celsD cs1), .ref st.length 0, .ref (st.length + 1) 0, .ref (st.length + 2) 0, di 0, db true, .any, .any, .any, .any, .any, .any, .any, .any, .any, .any, .any, .any, .any, .any, .any, .any, .any, .any, .any, .any, .any, .any, .any, .any, .any, .any, .any, .any, .any, .any, .any, .any, .any, .any, .any, .any, .any, .any, .any, .any, .any, .any, .any, .any, .any, .any, .any, .any, .any, .any, .any, .any, .any, .any, .any, .any, .any, .any, .any, .any, .any, .any, .any, .any, .any, .any, .any, .any, .any, .any, .any, .any, .any, .any, .any, .any, .any, .any, .any, .any, .any, .any, .any, .any, .any, .any, .any, .any, .any, .any, .any, .any, .any, .any, .any, .any, .any, .any, .any, .any, .any, .any, .any, .any, .any, .any, .any, .any, .any, .any, .any, .any, .any, .any, .any, .any, .any, .any, .any, .any, .any, .any, .any, .any, .any, .any, .any, .any, .any, .any, .any, .any, .any, .any, .any, .any, .any, .any, .any, .any, .any, .any, .any, .any, .any, .any, .any, .any, .any, .any, .any, .any, .any, .any, .any, .any, .any, .any, .any, .any, .any, .any, .any, .any, .any, .any, .any, .any, .any, .any, .any, .any, .any, .any, .any, .any, .any, .any, .any, .any, .any, .any, .any, .any, .any, .any, .any, .any, .any, .any, .any, .any, .any, .any, .any, .any, .any, .any, .any, .any, .any, .any, .any, .any, .any, .any, .any, .any, .any, .any, .any, .any, .any, .any, .any] ∧ s2 = st ++ [exA 2 1 1 [], exA 3 1 1 [], some (.cells [di 2, .d (clsD [[1], [2]])])]) ?_ ?_
  · simp only [go_sem, Int.reduceBEq]
    refine exs ⟨fun _ => ?_, fun h => Bool.noConfusion h⟩
    simp only [go_sem]
    refine ac' (ac_weak (Weak.deep [3, 4, 5] 6) ?_)
    simp only [go_sem]
    refine same_ac ⟨2, [[1], [2]]⟩ ⟨2, [[1], [2]]⟩ (by decide) (by decide) (by decide) (by decide) _ _ _ ?_
    simp only [go_sem, and_self, decide_true, Tryd.results9]
    refine Wk.pre [0, 1, 2, 3, 4, 5, 6] ?_
    exact Wk.keep [0, 1, 2, 3, 4, 5, 6] [0, 1, 2] (by decide) (Nat.le_refl _) hbd ⟨by simp only [go_sem, Int.reduceBEq], by simp only [go_sem]⟩
  rintro fr st' ⟨rfl, rfl⟩
  refine aw_cut (fun fr s2 => fr = [db false, .d (celsD cs1), .ref st.length 0, .ref (st.length + 1) 0, .ref (st.length + 2) 0, di 0, db true, .ref (st.length + 3) 0, .any, .any, .any, .any, .any, .any, .any, .any, .any, .any, .any, .any, .any, .any, .any, .any, .any, .any, .any, .any, .any, .any, .any, .any, .any, .any, .any, .any, .any, .any, .any, .any, .any, .any, .any, .any, .any, .any, .any, .any, .any, .any, .any, .any, .any, .any, .any, .any, .any, .any, .any, .any, .any, .any, .any, .any, .any, .any, .any, .any, .any, .any, .any, .any, .any, .any, .any, .any, .any, .any, .any, .any, .any, .any, .any, .any, .any, .any, .any, .any, .any, .any, .any, .any, .any, .any, .any, .any, .any, .any, .any, .any, .any, .any, .any, .any, .any, .any, .any, .any, .any, .any, .any, .any, .any, .any, .any, .any, .any, .any, .any, .any, .any, .any, .any, .any, .any, .any, .any, .any, .any, .any, .any, .any, .any, .any, .any, .any, .any, .any, .any, .any, .any, .any, .any, .any, .any, .any, .any, .any, .any, .any, .any, .any, .any, .any, .any, .any, .any, .any, .any, .any, .any, .any, .any, .any, .any, .any, .any, .any, .any, .any, .any, .any, .any, .any, .any, .any, .any, .any, .any, .any, .any, .any, .any, .any, .any, .any, .any, .any, .any, .any, .any, .any, .any, .any, .any, .any, .any, .any, .any, .any, .any, .any, .any, .any, .any, .any, .any, .any, .any, .any, .any, .any, .any, .any, .any, .any, .any, .any, .any, .any, .any, .any] ∧ s2 = st ++ [exA 2 1 1 [], exA 3 1 1 [], some (.cells [di 2, .d (clsD [[1], [2]])]), oc2]) ?_ ?_
  · simp only [go_sem]
    refine Wk.pre [0, 1, 2, 3, 4, 5, 6, 7] ?_
    refine Wk.deep [3] 6 ?_
    simp only [go_sem]
    exact Wk.keep [0, 1, 2, 3, 4, 5, 6, 7] [0, 1, 2, 4] (by decide) (Nat.le_refl _) hbd ⟨by simp only [go_sem, Int.reduceBEq], by simp only [go_sem]⟩
  rintro fr st' ⟨rfl, rfl⟩
  refine aw_cut (fun fr s2 => fr = [db false, .d (celsD cs1), .ref st.length 0, .ref (st.length + 1) 0, .ref (st.length + 2) 0, di 0, db true, .ref (st.length + 3) 0, .any, .any, .any, .any, .any, .any, .any, .any, .any, .any, .any, .any, .any, .any, .any, .any, .any, .any, .any, .any, .any, .any, .any, .any, .any, .any, .any, .any, .any, .any, .any, .any, .any, .any, .any, .any, .any, .any, .any, .any, .any, .any, .any, .any, .any, .any, .any, .any, .any, .any, .any, .any, .any, .any, .any, .any, .any, .any, .any, .any, .any, .any, .any, .any, .any, .any, .any, .any, .any, .any, .any, .any, .any, .any, .any, .any, .any, .any, .any, .any, .any, .any, .any, .any, .any, .any, .any, .any, .any, .any, .any, .any, .any, .any, .any, .any, .any, .any, .any, .any, .any, .any, .any, .any, .any, .any, .any, .any, .any, .any, .any, .any, .any, .any, .any, .any, .any, .any, .any, .any, .any, .any, .any, .any, .any, .any, .any, .any, .any, .any, .any, .any, .any, .any, .any, .any, .any, .any, .any, .any, .any, .any, .any, .any, .any, .any, .any, .any, .any, .any, .any, .any, .any, .any, .any, .any, .any, .any, .any, .any, .any, .any, .any, .any, .any, .any, .any, .any, .any, .any, .any, .any, .any, .any, .any, .any, .any, .any, .any, .any, .any, .any, .any, .any, .any, .any, .any, .any, .any, .any, .any, .any, .any, .any, .any, .any, .any, .any, .any, .any, .any, .any, .any, .any, .any, .any, .any, .any, .any, .any, .any, .any, .any, .any] ∧ s2 = st ++ [exA 2 1 1 [], exA 3 1 1 [], oc3, oc2]) ?_ ?_
  · simp only [go_sem]
    rw [← c2_d]
    refine ac' (neg_ac cs1 c2 ok2c enc2 _ _ hG _ ?_)
    rw [neg2]
    simp only [cnfD, go_sem, Tryd.results9]
    exact Wk.mask [0, 1, 2, 3, 4, 5, 6, 7] ⟨by simp only [go_sem, Int.reduceBEq], by simp only [go_sem]⟩
  rintro fr st' ⟨rfl, rfl⟩
  refine aw_cut (fun fr s2 => fr = [db false, .d (celsD cs1), .ref st.length 0, .ref (st.length + 1) 0, .ref (st.length + 2) 0, di 0, db true, .ref (st.length + 3) 0, .any, .any, .any, .any, .any, .any, .any, .any, .any, .any, .any, .any, .any, .any, .any, .any, .any, .any, .any, .any, .any, .any, .any, .any, .any, .any, .any, .any, .any, .any, .any, .any, .any, .any, .any, .any, .any, .any, .any, .any, .any, .any, .any, .any, .any, .any, .any, .any, .any, .any, .any, .any, .any, .any, .any, .any, .any, .any, .any, .any, .any, .any, .any, .any, .any, .any, .any, .any, .any, .any, .any, .any, .any, .any, .any, .any, .any, .any, .any, .any, .any, .any, .any, .any, .any, .any, .any, .any, .any, .any, .any, .any, .any, .any, .any, .any, .any, .any, .any, .any, .any, .any, .any, .any, .any, .any, .any, .any, .any, .any, .any, .any, .any, .any, .any, .any, .any, .any, .any, .any, .any, .any, .any, .any, .any, .any, .any, .any, .any, .any, .any, .any, .any, .any, .any, .any, .any, .any, .any, .any, .any, .any, .any, .any, .any, .any, .any, .any, .any, .any, .any, .any, .any, .any, .any, .any, .any, .any, .any, .any, .any, .any, .any, .any, .any, .any, .any, .any, .any, .any, .any, .any, .any, .any, .any, .any, .any, .any, .any, .any, .any, .any, .any, .any, .any, .any, .any, .any, .any, .any, .any, .any, .any, .any, .any, .any, .any, .any, .any, .any, .any, .any, .any, .any, .any, .any, .any, .any, .any, .any, .any, .any, .any, .any] ∧ s2 = st ++ [exA 2 1 1 [], exA 3 1 1 [], oc3, oc2]) ?_ ?_
  · simp only [go_sem, Int.reduceBEq]
    refine exs ⟨fun _ => ?_, fun h => Bool.noConfusion h⟩
    simp only [go_sem]
    refine ac' (ac_weak (Weak.deep [4, 5, 6, 7, 8, 9] 6) ?_)
    simp only [go_sem]
    refine same_ac ⟨4, F2⟩ ⟨4, F2⟩ (by decide) (by decide) (by decide) (by decide) _ _ _ ?_
    simp only [go_sem, and_self, decide_true, Tryd.results9]
    refine exs ⟨fun _ => ?_, fun h => Bool.noConfusion h⟩
    simp only [go_sem]
    refine ac' (cvalid_ac ⟨4, F2⟩ (by decide) (by decide) _ _ _ ?_)
    rw [show validC ⟨4, F2⟩ = true from rfl]
    simp only [go_sem, Tryd.results9]
    refine Wk.pre [0, 1, 2, 3, 4, 5, 6, 7] ?_
    exact Wk.keep [0, 1, 2, 3, 4, 5, 6, 7] [0, 1, 2, 3] (by decide) (Nat.le_refl _) hbd ⟨by simp only [go_sem, Int.reduceBEq], by simp only [go_sem]⟩
  rintro fr st' ⟨rfl, rfl⟩
  refine aw_cut (fun fr s2 => fr = [db false, .d (celsD cs1), .ref st.length 0, .ref (st.length + 1) 0, .ref (st.length + 2) 0, di 0, db true, .ref (st.length + 3) 0, .d (bsD V2), .any, .any, .any, .any, .any, .any, .any, .any, .any, .any, .any, .any, .any, .any, .any, .any, .any, .any, .any, .any, .any, .any, .any, .any, .any, .any, .any, .any, .any, .any, .any, .any, .any, .any, .any, .any, .any, .any, .any, .any, .any, .any, .any, .any, .any, .any, .any, .any, .any, .any, .any, .any, .any, .any, .any, .any, .any, .any, .any, .any, .any, .any, .any, .any, .any, .any, .any, .any, .any, .any, .any, .any, .any, .any, .any, .any, .any, .any, .any, .any, .any, .any, .any, .any, .any, .any, .any, .any, .any, .any, .any, .any, .any, .any, .any, .any, .any, .any, .any, .any, .any, .any, .any, .any, .any, .any, .any, .any, .any, .any, .any, .any, .any, .any, .any, .any, .any, .any, .any, .any, .any, .any, .any, .any, .any, .any, .any, .any, .any, .any, .any, .any, .any, .any, .any, .any, .any, .any, .any, .any, .any, .any, .any, .any, .any, .any, .any, .any, .any, .any, .any, .any, .any, .any, .any, .any, .any, .any, .any, .any, .any, .any, .any, .any, .any, .any, .any, .any, .any, .any, .any, .any, .any, .any, .any, .any, .any, .any, .any, .any, .any, .any, .any, .any, .any, .any, .any, .any, .any, .any, .any, .any, .any, .any, .any, .any, .any, .any, .any, .any, .any, .any, .any, .any, .any, .any, .any, .any, .any, .any, .any, .any, .any] ∧ s2 = st ++ [exA 2 1 1 [], exA 3 1 1 [], oc3, oc2]) ?_ ?_
  · simp only [go_sem]
    refine ac' (ac_weak (Weak.deep [4, 5] 6) ?_)
    simp only [go_sem]
    rw [← c2_d]
    refine ext_ac cs1 c2 ok2c enc2 [0, 0] [0, 1] (by decide) (by decide) _ _ hG _ ?_
    rw [ext2]
    simp only [go_sem, Tryd.results9]
    refine Wk.pre [0, 1, 2, 3, 4, 5, 6, 7, 8] ?_
    exact Wk.keep [0, 1, 2, 3, 4, 5, 6, 7, 8] [0, 1, 2, 3] (by decide) (Nat.le_refl _) hbd ⟨by simp only [go_sem, Int.reduceBEq], by simp only [go_sem]⟩
  rintro fr st' ⟨rfl, rfl⟩
  refine aw_cut (fun fr s2 => fr = [db false, .d (celsD cs1), .ref st.length 0, .ref (st.length + 1) 0, .ref (st.length + 2) 0, .any, db true, .ref (st.length + 3) 0, .any, .any, .any, .any, .any, .any, .any, .any, .any, .any, .any, .any, .any, .any, .any, .any, .any, .any, .any, .any, .any, .any, .any, .any, .any, .any, .any, .any, .any, .any, .any, .any, .any, .any, .any, .any, .any, .any, .any, .any, .any, .any, .any, .any, .any, .any, .any, .any, .any, .any, .any, .any, .any, .any, .any, .any, .any, .any, .any, .any, .any, .any, .any, .any, .any, .any, .any, .any, .any, .any, .any, .any, .any, .any, .any, .any, .any, .any, .any, .any, .any, .any, .any, .any, .any, .any, .any, .any, .any, .any, .any, .any, .any, .any, .any, .any, .any, .any, .any, .any, .any, .any, .any, .any, .any, .any, .any, .any, .any, .any, .any, .any, .any, .any, .any, .any, .any, .any, .any, .any, .any, .any, .any, .any, .any, .any, .any, .any, .any, .any, .any, .any, .any, .any, .any, .any, .any, .any, .any, .any, .any, .any, .any, .any, .any, .any, .any, .any, .any, .any, .any, .any, .any, .any, .any, .any, .any, .any, .any, .any, .any, .any, .any, .any, .any, .any, .any, .any, .any, .any, .any, .any, .any, .any, .any, .any, .any, .any, .any, .any, .any, .any, .any, .any, .any, .any, .any, .any, .any, .any, .any, .any, .any, .any, .any, .any, .any, .any, .any, .any, .any, .any, .any, .any, .any, .any, .any, .any, .any, .any, .any, .any, .any, .any] ∧ s2 = st ++ [exA 2 1 1 [], exA 3 1 1 [], oc3, oc2]) ?_ ?_
  · simp only [go_sem, Int.reduceBEq]
    refine exs ⟨fun _ => ?_, fun h => Bool.noConfusion h⟩
    simp only [go_sem]
    refine ac' (ac_weak (Weak.deep [4] 6) ?_)
    simp only [go_sem]
    refine bools_ac V2 V2 (by decide) (by decide) _ _ _ ?_
    simp only [go_sem, decide_true, Tryd.results9]
    refine exs ⟨fun _ => ?_, fun h => Bool.noConfusion h⟩
    simp only [go_sem]
    refine ac' (ceval_ac ⟨4, F2⟩ V2 (by decide) (by decide) (by decide) _ _ _ ?_)
    rw [show evalC ⟨4, F2⟩ V2 = false from rfl]
    simp only [go_sem, Bool.not_false, Tryd.results9]
    refine Wk.pre [0, 1, 2, 3, 4, 6, 7] ?_
    exact Wk.keep [0, 1, 2, 3, 4, 6, 7] [0, 1, 2, 3] (by decide) (Nat.le_refl _) hbd ⟨by simp only [go_sem, Int.reduceBEq], by simp only [go_sem]⟩
  rintro fr st' ⟨rfl, rfl⟩
  refine aw_cut (fun fr s2 => fr = [db false, .d (celsD cs1), .ref st.length 0, .ref (st.length + 1) 0, .ref (st.length + 2) 0, .any, db true, .ref (st.length + 3) 0, .any, dL [1, 1], dL [1, 0], .any, .any, .any, .any, .any, .any, .any, .any, .any, .any, .any, .any, .any, .any, .any, .any, .any, .any, .any, .any, .any, .any, .any, .any, .any, .any, .any, .any, .any, .any, .any, .any, .any, .any, .any, .any, .any, .any, .any, .any, .any, .any, .any, .any, .any, .any, .any, .any, .any, .any, .any, .any, .any, .any, .any, .any, .any, .any, .any, .any, .any, .any, .any, .any, .any, .any, .any, .any, .any, .any, .any, .any, .any, .any, .any, .any, .any, .any, .any, .any, .any, .any, .any, .any, .any, .any, .any, .any, .any, .any, .any, .any, .any, .any, .any, .any, .any, .any, .any, .any, .any, .any, .any, .any, .any, .any, .any, .any, .any, .any, .any, .any, .any, .any, .any, .any, .any, .any, .any, .any, .any, .any, .any, .any, .any, .any, .any, .any, .any, .any, .any, .any, .any, .any, .any, .any, .any, .any, .any, .any, .any, .any, .any, .any, .any, .any, .any, .any, .any, .any, .any, .any, .any, .any, .any, .any, .any, .any, .any, .any, .any, .any, .any, .any, .any, .any, .any, .any, .any, .any, .any, .any, .any, .any, .any, .any, .any, .any, .any, .any, .any, .any, .any, .any, .any, .any, .any, .any, .any, .any, .any, .any, .any, .any, .any, .any, .any, .any, .any, .any, .any, .any, .any, .any, .any, .any, .any, .any, .any, .any, .any] ∧ s2 = st ++ [exA 2 1 1 [], exA 3 1 1 [], oc3, oc2]) ?_ ?_
  · simp only [go_sem]
    refine ac' (ac_weak (Weak.deep [4] 6) ?_)
    simp only [go_sem]
    rw [← c2_d]
    refine dec_ac cs1 c2 ok2c enc2 [true, true, false, false] (by decide) _ _ hG _ ?_
    rw [dec2]
    simp only [go_sem, Tryd.results9]
    refine Wk.pre [0, 1, 2, 3, 4, 6, 7, 9, 10] ?_
    exact Wk.keep [0, 1, 2, 3, 4, 6, 7, 9, 10] [0, 1, 2, 3] (by decide) (Nat.le_refl _) hbd ⟨by simp only [go_sem, Int.reduceBEq], by simp only [go_sem]⟩
  rintro fr st' ⟨rfl, rfl⟩
  refine aw_cut (fun fr s2 => fr = [db false, .d (celsD cs1), .ref st.length 0, .ref (st.length + 1) 0, .ref (st.length + 2) 0, .any, db true, .ref (st.length + 3) 0, .any, .any, .any, .any, .any, .any, .any, .any, .any, .any, .any, .any, .any, .any, .any, .any, .any, .any, .any, .any, .any, .any, .any, .any, .any, .any, .any, .any, .any, .any, .any, .any, .any, .any, .any, .any, .any, .any, .any, .any, .any, .any, .any, .any, .any, .any, .any, .any, .any, .any, .any, .any, .any, .any, .any, .any, .any, .any, .any, .any, .any, .any, .any, .any, .any, .any, .any, .any, .any, .any, .any, .any, .any, .any, .any, .any, .any, .any, .any, .any, .any, .any, .any, .any, .any, .any, .any, .any, .any, .any, .any, .any, .any, .any, .any, .any, .any, .any, .any, .any, .any, .any, .any, .any, .any, .any, .any, .any, .any, .any, .any, .any, .any, .any, .any, .any, .any, .any, .any, .any, .any, .any, .any, .any, .any, .any, .any, .any, .any, .any, .any, .any, .any, .any, .any, .any, .any, .any, .any, .any, .any, .any, .any, .any, .any, .any, .any, .any, .any, .any, .any, .any, .any, .any, .any, .any, .any, .any, .any, .any, .any, .any, .any, .any, .any, .any, .any, .any, .any, .any, .any, .any, .any, .any, .any, .any, .any, .any, .any, .any, .any, .any, .any, .any, .any, .any, .any, .any, .any, .any, .any, .any, .any, .any, .any, .any, .any, .any, .any, .any, .any, .any, .any, .any, .any, .any, .any, .any, .any, .any, .any, .any, .any, .any] ∧ s2 = st ++ [exA 2 1 1 [], exA 3 1 1 [], oc3, oc2]) ?_ ?_
  · simp only [dL, isD, go_sem, List.map_cons, List.map_nil, List.length_cons, List.length_nil, Int.reduceBEq]
    simp only [go_sem, Int.cast_ofNat_Int, Int.reduceBEq, Int.toNat_zero, Int.toNat_one, List.getD_cons_zero, List.getD_cons_succ]
    refine ⟨⟨by omega, by omega⟩, ⟨by omega, by omega⟩, ⟨by omega, by omega⟩, ⟨by omega, by omega⟩, ?_⟩
    exact Wk.mask [0, 1, 2, 3, 4, 6, 7] ⟨by simp only [go_sem], by simp only [go_sem]⟩
  rintro fr st' ⟨rfl, rfl⟩
  refine aw_cut (fun fr s2 => fr = [db false, .d (celsD cs1), .ref st.length 0, .ref (st.length + 1) 0, .ref (st.length + 2) 0, .any, db true, .ref (st.length + 3) 0, .any, .any, .any, dL [0, 2], dL [0, 3], .any, .any, .any, .any, .any, .any, .any, .any, .any, .any, .any, .any, .any, .any, .any, .any, .any, .any, .any, .any, .any, .any, .any, .any, .any, .any, .any, .any, .any, .any, .any, .any, .any, .any, .any, .any, .any, .any, .any, .any, .any, .any, .any, .any, .any, .any, .any, .any, .any, .any, .any, .any, .any, .any, .any, .any, .any, .any, .any, .any, .any, .any, .any, .any, .any, .any, .any, .any, .any, .any, .any, .any, .any, .any, .any, .any, .any, .any, .any, .any, .any, .any, .any, .any, .any, .any, .any, .any, .any, .any, .any, .any, .any, .any, .any, .any, .any, .any, .any, .any, .any, .any, .any, .any, .any, .any, .any, .any, .any, .any, .any, .any, .any, .any, .any, .any, .any, .any, .any, .any, .any, .any, .any, .any, .any, .any, .any, .any, .any, .any, .any, .any, .any, .any, .any, .any, .any, .any, .any, .any, .any, .any, .any, .any, .any, .any, .any, .any, .any, .any, .any, .any, .any, .any, .any, .any, .any, .any, .any, .any, .any, .any, .any, .any, .any, .any, .any, .any, .any, .any, .any, .any, .any, .any, .any, .any, .any, .any, .any, .any, .any, .any, .any, .any, .any, .any, .any, .any, .any, .any, .any, .any, .any, .any, .any, .any, .any, .any, .any, .any, .any, .any, .any, .any, .any, .any, .any, .any, .any] ∧ s2 = st ++ [exA 2 1 1 [], exA 3 1 1 [], oc3, oc2]) ?_ ?_
  · simp only [go_sem]
    rw [← c2_d]
    refine ac' (lay_ac cs1 c2 ok2c enc2 _ _ hG _ ?_)
    rw [lay2]
    simp only [go_sem, Tryd.results9]
    exact Wk.mask [0, 1, 2, 3, 4, 6, 7, 11, 12] ⟨by simp only [go_sem], by simp only [go_sem]⟩
  rintro fr st' ⟨rfl, rfl⟩
  refine aw_cut (fun fr s2 => fr = [db false, .d (celsD cs1), .ref st.length 0, .ref (st.length + 1) 0, .ref (st.length + 2) 0, .any, db true, .any, .any, .any, .any, .any, .any, .any, .any, .any, .any, .any, .any, .any, .any, .any, .any, .any, .any, .any, .any, .any, .any, .any, .any, .any, .any, .any, .any, .any, .any, .any, .any, .any, .any, .any, .any, .any, .any, .any, .any, .any, .any, .any, .any, .any, .any, .any, .any, .any, .any, .any, .any, .any, .any, .any, .any, .any, .any, .any, .any, .any, .any, .any, .any, .any, .any, .any, .any, .any, .any, .any, .any, .any, .any, .any, .any, .any, .any, .any, .any, .any, .any, .any, .any, .any, .any, .any, .any, .any, .any, .any, .any, .any, .any, .any, .any, .any, .any, .any, .any, .any, .any, .any, .any, .any, .any, .any, .any, .any, .any, .any, .any, .any, .any, .any, .any, .any, .any, .any, .any, .any, .any, .any, .any, .any, .any, .any, .any, .any, .any, .any, .any, .any, .any, .any, .any, .any, .any, .any, .any, .any, .any, .any, .any, .any, .any, .any, .any, .any, .any, .any, .any, .any, .any, .any, .any, .any, .any, .any, .any, .any, .any, .any, .any, .any, .any, .any, .any, .any, .any, .any, .any, .any, .any, .any, .any, .any, .any, .any, .any, .any, .any, .any, .any, .any, .any, .any, .any, .any, .any, .any, .any, .any, .any, .any, .any, .any, .any, .any, .any, .any, .any, .any, .any, .any, .any, .any, .any, .any, .any, .any, .any, .any, .any, .any] ∧ s2 = st ++ [exA 2 1 1 [], exA 3 1 1 [], oc3, oc2]) ?_ ?_
  · simp only [dL, isD, go_sem, List.map_cons, List.map_nil, List.length_cons, List.length_nil, Int.reduceBEq, Int.cast_ofNat_Int, Int.reduceBEq, Int.toNat_zero, Int.toNat_one, List.getD_cons_zero, List.getD_cons_succ]
    refine ⟨⟨by omega, by omega⟩, ⟨by omega, by omega⟩, ⟨by omega, by omega⟩, ?_⟩
    exact Wk.mask [0, 1, 2, 3, 4, 6] ⟨by simp only [go_sem], by simp only [go_sem]⟩
  rintro fr st' ⟨rfl, rfl⟩
  refine aw_cut (fun fr s2 => fr = [db false, .d (celsD cs1), .any, .any, .ref st.length 0, .any, db true, .any, .any, .any, .any, .any, .any, .ref (st.length + 1) 0, .any, .any, .any, .any, .any, .any, .any, .any, .any, .any, .any, .any, .any, .any, .any, .any, .any, .any, .any, .any, .any, .any, .any, .any, .any, .any, .any, .any, .any, .any, .any, .any, .any, .any, .any, .any, .any, .any, .any, .any, .any, .any, .any, .any, .any, .any, .any, .any, .any, .any, .any, .any, .any, .any, .any, .any, .any, .any, .any, .any, .any, .any, .any, .any, .any, .any, .any, .any, .any, .any, .any, .any, .any, .any, .any, .any, .any, .any, .any, .any, .any, .any, .any, .any, .any, .any, .any, .any, .any, .any, .any, .any, .any, .any, .any, .any, .any, .any, .any, .any, .any, .any, .any, .any, .any, .any, .any, .any, .any, .any, .any, .any, .any, .any, .any, .any, .any, .any, .any, .any, .any, .any, .any, .any, .any, .any, .any, .any, .any, .any, .any, .any, .any, .any, .any, .any, .any, .any, .any, .any, .any, .any, .any, .any, .any, .any, .any, .any, .any, .any, .any, .any, .any, .any, .any, .any, .any, .any, .any, .any, .any, .any, .any, .any, .any, .any, .any, .any, .any, .any, .any, .any, .any, .any, .any, .any, .any, .any, .any, .any, .any, .any, .any, .any, .any, .any, .any, .any, .any, .any, .any, .any, .any, .any, .any, .any, .any, .any, .any, .any, .any, .any, .any, .any, .any, .any, .any, .any] ∧ s2 = st ++ [oc3, oeq]) ?_ ?_
  · simp only [go_sem]
    refine ac' (old_ac _ _ _ _ _ ?_)
    simp only [go_sem]
    refine ac' (cell_ac _ _ _ _ _ ?_)
    simp only [go_sem]
    refine ac' (two_ac _ _ _ _ _ _ _ ?_)
    rw [show Ex.mk 11 1 0 [Ex.mk 3 2 0 [], Ex.mk 2 2 0 []] = eqX from rfl, eqX_d]
    simp only [go_sem]
    refine Wk.pre [0, 1, 4, 6, 13] ?_
    exact Wk.keep [0, 1, 4, 6, 13] [2, 4] (by decide) (Nat.le_refl _) hbd ⟨by simp only [go_sem], by simp only [go_sem]⟩
  rintro fr st' ⟨rfl, rfl⟩
  refine aw_cut (fun fr s2 => fr = [db false, .d (celsD cs1), .any, .any, .ref st.length 0, di 0, db true, .any, .any, .any, .any, .any, .any, .ref (st.length + 1) 0, .any, .any, .any, .any, .any, .any, .any, .any, .any, .any, .any, .any, .any, .any, .any, .any, .any, .any, .any, .any, .any, .any, .any, .any, .any, .any, .any, .any, .any, .any, .any, .any, .any, .any, .any, .any, .any, .any, .any, .any, .any, .any, .any, .any, .any, .any, .any, .any, .any, .any, .any, .any, .any, .any, .any, .any, .any, .any, .any, .any, .any, .any, .any, .any, .any, .any, .any, .any, .any, .any, .any, .any, .any, .any, .any, .any, .any, .any, .any, .any, .any, .any, .any, .any, .any, .any, .any, .any, .any, .any, .any, .any, .any, .any, .any, .any, .any, .any, .any, .any, .any, .any, .any, .any, .any, .any, .any, .any, .any, .any, .any, .any, .any, .any, .any, .any, .any, .any, .any, .any, .any, .any, .any, .any, .any, .any, .any, .any, .any, .any, .any, .any, .any, .any, .any, .any, .any, .any, .any, .any, .any, .any, .any, .any, .any, .any, .any, .any, .any, .any, .any, .any, .any, .any, .any, .any, .any, .any, .any, .any, .any, .any, .any, .any, .any, .any, .any, .any, .any, .any, .any, .any, .any, .any, .any, .any, .any, .any, .any, .any, .any, .any, .any, .any, .any, .any, .any, .any, .any, .any, .any, .any, .any, .any, .any, .any, .any, .any, .any, .any, .any, .any, .any, .any, .any, .any, .any, .any] ∧ s2 = st ++ [oc5, oeq]) ?_ ?_
  · simp only [go_sem]
    refine aw_plan (.take 0 <| .pure 1 <| .tk 8 2 <| .done) (by kernel_rfl) ?_
    simp only [go_sem]
    refine exP (.d (Ex.mk 1 1 1 []).d) ⟨fun σ' => ac' (const_ac _ _ _ _ _ ⟨rfl, rfl⟩), ?_⟩
    rw [oneX_d]
    simp only [go_sem, Tryd.results9]
    rw [← c3_d]
    refine ac' (neg_ac cs1 c3 ok3c enc3 _ _ hG _ ?_)
    rw [neg3]
    simp only [cnfD, go_sem, Tryd.results9]
    exact Wk.mask [0, 1, 4, 5, 6, 13] ⟨by simp only [go_sem], by simp only [go_sem]⟩
  rintro fr st' ⟨rfl, rfl⟩
  refine aw_cut (fun fr s2 => fr = [db false, .d (celsD cs1), .any, .any, .any, .any, db true, .any, .any, .any, .any, .any, .any, .ref st.length 0, .any, .any, .any, .any, .any, .any, .any, .any, .any, .any, .any, .any, .any, .any, .any, .any, .any, .any, .any, .any, .any, .any, .any, .any, .any, .any, .any, .any, .any, .any, .any, .any, .any, .any, .any, .any, .any, .any, .any, .any, .any, .any, .any, .any, .any, .any, .any, .any, .any, .any, .any, .any, .any, .any, .any, .any, .any, .any, .any, .any, .any, .any, .any, .any, .any, .any, .any, .any, .any, .any, .any, .any, .any, .any, .any, .any, .any, .any, .any, .any, .any, .any, .any, .any, .any, .any, .any, .any, .any, .any, .any, .any, .any, .any, .any, .any, .any, .any, .any, .any, .any, .any, .any, .any, .any, .any, .any, .any, .any, .any, .any, .any, .any, .any, .any, .any, .any, .any, .any, .any, .any, .any, .any, .any, .any, .any, .any, .any, .any, .any, .any, .any, .any, .any, .any, .any, .any, .any, .any, .any, .any, .any, .any, .any, .any, .any, .any, .any, .any, .any, .any, .any, .any, .any, .any, .any, .any, .any, .any, .any, .any, .any, .any, .any, .any, .any, .any, .any, .any, .any, .any, .any, .any, .any, .any, .any, .any, .any, .any, .any, .any, .any, .any, .any, .any, .any, .any, .any, .any, .any, .any, .any, .any, .any, .any, .any, .any, .any, .any, .any, .any, .any, .any, .any, .any, .any, .any, .any] ∧ s2 = st ++ [oeq]) ?_ ?_
  · have hg12 : List.getD (F3.map isD) (Int.toNat 12) default = .sl 1 [iD (-8)] := rfl
    simp only [clsD, go_sem, Int.reduceBEq, List.length_map, show F3.length = 13 from rfl, Int.cast_ofNat_Int, hg12, Int.toNat_zero, Tryd.results9]
    refine ⟨by decide, ?_⟩
    refine exs ⟨fun _ => ?_, fun h => Bool.noConfusion h⟩
    simp only [go_sem]
    refine ac' (ac_weak (Weak.deep [2] 6) ?_)
    simp only [go_sem]
    refine sameInts_ac [-8] [-8] (by decide) (by decide) _ _ _ ?_
    simp only [go_sem, decide_true, Tryd.results9]
    refine Wk.pre [0, 1, 6, 13] ?_
    exact Wk.keep [0, 1, 6, 13] [1] (by decide) (Nat.le_refl _) hbd ⟨by simp only [go_sem, Int.reduceBEq], by simp only [go_sem]⟩
  rintro fr st' ⟨rfl, rfl⟩
  refine aw_cut (fun fr s2 => fr = [db false, .d (celsD cs1), .any, .any, .any, di 1, db true, .any, .any, .any, .any, .any, .any, .ref st.length 0, .any, .any, .any, .any, .any, .any, .any, .any, .any, .any, .any, .any, .any, .any, .any, .any, .any, .any, .any, .any, .any, .any, .any, .any, .any, .any, .any, .any, .any, .any, .any, .any, .any, .any, .any, .any, .any, .any, .any, .any, .any, .any, .any, .any, .any, .any, .any, .any, .any, .any, .any, .any, .any, .any, .any, .any, .any, .any, .any, .any, .any, .any, .any, .any, .any, .any, .any, .any, .any, .any, .any, .any, .any, .any, .any, .any, .any, .any, .any, .any, .any, .any, .any, .any, .any, .any, .any, .any, .any, .any, .any, .any, .any, .any, .any, .any, .any, .any, .any, .any, .any, .any, .any, .any, .any, .any, .any, .any, .any, .any, .any, .any, .any, .any, .any, .any, .any, .any, .any, .any, .any, .any, .any, .any, .any, .any, .any, .any, .any, .any, .any, .any, .any, .any, .any, .any, .any, .any, .any, .any, .any, .any, .any, .any, .any, .any, .any, .any, .any, .any, .any, .any, .any, .any, .any, .any, .any, .any, .any, .any, .any, .any, .any, .any, .any, .any, .any, .any, .any, .any, .any, .any, .any, .any, .any, .any, .any, .any, .any, .any, .any, .any, .any, .any, .any, .any, .any, .any, .any, .any, .any, .any, .any, .any, .any, .any, .any, .any, .any, .any, .any, .any, .any, .any, .any, .any, .any, .any] ∧ s2 = st ++ [oeq]) ?_ ?_
  · simp only [go_sem]
    refine aw_plan (.take 0 <| .pure 2 <| .take 1 <| .tk 6 3 <| .done) (by kernel_rfl) ?_
    simp only [go_sem]
    refine exP (.d (Ex.mk 3 2 0 []).d) ⟨fun σ' => ac' (old_ac _ _ _ _ _ ⟨rfl, rfl⟩), ?_⟩
    rw [old2_d]
    simp only [go_sem, Tryd.results9]
    rw [← c4_d]
    refine ac' (nenc_ac cs1 c4 ok4c (by decide) (by kernel_rfl) (by kernel_rfl) rfl (by decide) _ _ hG _ ?_)
    simp only [cnfD, go_sem, Tryd.results9]
    exact Wk.mask [0, 1, 5, 6, 13] ⟨by simp only [go_sem], by simp only [go_sem]⟩
  rintro fr st' ⟨rfl, rfl⟩
  simp only [go_sem, Int.reduceBEq]
  refine exs ⟨fun _ => ?_, fun h => Bool.noConfusion h⟩
  simp only [go_sem]
  rw [← eqX_d]
  refine ac' (valid_prog eqX eqX_ok cs1 (by kernel_rfl) (by kernel_rfl) _ _ hG _ ?_)
  simp only [go_sem, Tryd.results9]
  exact ret_d hbd h
end Go.Proofs.YtkjlefahpdconaaDoor
end PartD2

section PartD3
/- What the laws look at: sizes of a formula. -/
set_option linter.unusedSimpArgs false
set_option linter.unusedVariables false
set_option maxRecDepth 100000
namespace Go.Proofs.YtkjlefahpdconaaDoor
open Go Go.Ab

theorem TR.lits {cs : List Cel} {h g : Ex} {gs : List Gt} {root : Int} (t : TR cs h g root gs) : ∀ x ∈ (negF (firstV cs h g) (root, gs)).cls, ∀ l ∈ x, Lit (firstV cs h g + gs.length) l := fun x hx l hl => by
  rcases List.mem_append.1 hx with hx | hx
  · exact most_lits t.good.pos t.good.ok x hx l hl
  · obtain rfl : x = [root] := by simpa using hx
    obtain rfl : l = root := by simpa using hl
    exact t.lit
theorem TR.len {cs : List Cel} {h g : Ex} {gs : List Gt} {root : Int} (t : TR cs h g root gs) : (negF (firstV cs h g) (root, gs)).cls.length ≤ 40000 := by
  have := most_len (first := firstV cs h g) (gs := gs)
  have := t.good.fit.2
  simp [negF]; omega
theorem TR.fine {cs : List Cel} {h g : Ex} {gs : List Gt} {root : Int} (t : TR cs h g root gs) : fineC (negF (firstV cs h g) (root, gs)) = true := by
  have h1 := t.good.fit.1
  have h2 := t.good.pos
  simp only [fineC, Bool.and_eq_true, decide_eq_true_eq]
  refine ⟨⟨⟨⟨?_, ?_⟩, ?_⟩, t.len⟩, ?_⟩
  · simp only [negF]; omega
  · simp only [negF]; omega
  · simp [negF, mostC]
  · simp only [clsV, List.all_eq_true]
    intro x hx l hl
    have := t.lits x hx l hl
    exact decide_eq_true this
theorem gate_short {f : Int} {g : Gt} : ∀ c ∈ gateCls f g, c.length ≤ 3 := by
  intro c hc
  unfold gateCls at hc
  split at hc <;> simp only [List.mem_cons, List.not_mem_nil, or_false] at hc
  · rcases hc with rfl | rfl | rfl | rfl <;> simp
  · rcases hc with rfl | rfl | rfl <;> simp
theorem cls_short : ∀ (gs : List Gt) (first : Nat), ∀ c ∈ clsG first gs, c.length ≤ 3
  | [], first, c, hc => by simp [clsG] at hc
  | g :: gs, first, c, hc => by
    simp only [clsG, List.mem_append] at hc
    rcases hc with hc | hc
    · exact gate_short c hc
    · exact cls_short gs _ c hc
theorem most_short {first : Nat} {gs : List Gt} : ∀ c ∈ mostC first gs, c.length ≤ 3 := fun c hc => by
  rcases List.mem_cons.1 hc with rfl | hc
  · simp
  · exact cls_short gs first c hc
theorem neg_short {first : Nat} {gs : List Gt} {root : Int} : ∀ c ∈ (negF first (root, gs)).cls, c.length ≤ 3 := fun c hc => by
  rcases List.mem_append.1 hc with hc | hc
  · exact most_short c hc
  · obtain rfl : c = [root] := by simpa using hc
    simp
theorem reach_le {n : Nat} (h : n ≤ 100000) : n ≤ reachBytes := by simp only [reachBytes]; omega
end Go.Proofs.YtkjlefahpdconaaDoor
end PartD3

section PartD12
/- The reference's Support, merge and Occur. -/
set_option linter.unusedSimpArgs false
set_option linter.unusedVariables false
set_option maxRecDepth 100000
namespace Go.Proofs.YtkjlefahpdconaaDoor
open Go Go.Ab

/-- The store with two lists of marks. -/
def mk2 (io inw : Nat) (σ : St) (a b : List Bool) : St := (σ.set io (bCells a)).set inw (bCells b)
section
variable {io inw : Nat} {σ l : St} {a b c d : List Bool}
theorem mk2_len : (mk2 io inw σ a b).length = σ.length := by simp [mk2]
theorem mk2_app (h1 : io < σ.length) (h2 : inw < σ.length) : mk2 io inw (σ ++ l) a b = mk2 io inw σ a b ++ l := by
  rw [mk2, mk2, List.set_append_left _ _ h1, List.set_append_left _ _ (by simpa using h2)]
theorem mk2_mk2 (hne : io ≠ inw) : mk2 io inw (mk2 io inw σ a b) c d = mk2 io inw σ c d := by
  simp only [mk2]
  rw [List.set_comm (bCells b) (bCells c) (Ne.symm hne), List.set_set, List.set_set]
theorem mk2_o (hne : io ≠ inw) (h1 : io < σ.length) : (mk2 io inw σ a b)[io]? = some (bCells a) := by
  rw [mk2, List.getElem?_set_ne (Ne.symm hne), List.getElem?_set_self h1]
theorem mk2_n (h2 : inw < σ.length) : (mk2 io inw σ a b)[inw]? = some (bCells b) := by
  rw [mk2, List.getElem?_set_self (by simpa using h2)]
theorem mk2_set_o (hne : io ≠ inw) : (mk2 io inw σ a b).set io (bCells c) = mk2 io inw σ c b := by
  simp only [mk2]
  rw [List.set_comm (bCells b) (bCells c) (Ne.symm hne), List.set_set]
theorem mk2_set_n : (mk2 io inw σ a b).set inw (bCells c) = mk2 io inw σ a c := by simp only [mk2]; rw [List.set_set]
theorem mk2_self (h1 : σ[io]? = some (bCells a)) (h2 : σ[inw]? = some (bCells b)) : mk2 io inw σ a b = σ := by
  have e1 : σ.set io (bCells a) = σ := by
    apply List.ext_getElem?
    intro i
    by_cases hi : io = i
    · subst hi; rw [List.getElem?_set_self (lt_of_some h1), h1]
    · rw [List.getElem?_set_ne hi]
  rw [mk2, e1]
  apply List.ext_getElem?
  intro i
  by_cases hi : inw = i
  · subst hi; rw [List.getElem?_set_self (lt_of_some h2), h2]
  · rw [List.getElem?_set_ne hi]
theorem mk2_bd (hb : Bd σ.length σ) : Bd (mk2 io inw σ a b).length (mk2 io inw σ a b) := by
  rw [mk2_len]
  have hc : ∀ (bs : List Bool) (o : Ob), bCells bs = some o → o.bd σ.length = true := fun bs o ho => by
    simp only [bCells, Option.some.injEq] at ho
    subst ho
    exact bdL_of fun x hx => by
      obtain ⟨y, _, rfl⟩ := List.mem_map.1 hx
      rfl
  exact (hb.set io (hc a)).set inw (hc b)
end
theorem markB_append (o : Int) : ∀ (l m : List Ex) (bs : List Bool), markB o (l ++ m) bs = markB o m (markB o l bs)
  | [], m, bs => rfl
  | x :: l, m, bs => by simp only [List.cons_append, markB]; exact markB_append o l m _
set_option maxHeartbeats 8000000 in
theorem marks_ac (l : Nat) : ∀ (e : Ex) (hok : e.Ok) (hd : e.deep l = true) {io inw : Nat} (hne : io ≠ inw) (bo bn : List Bool) (hlo : bo.length = 32) (hln : bn.length = 32) (σ : St) (h1 : io < σ.length) (h2 : inw < σ.length) (G : Glob) (R : A → St → Prop)
    (h : ∀ r, R r (mk2 io inw σ (markB 3 e.lvs bo) (markB 2 e.lvs bn))), AC Tryd.prog G 56 [.d e.d, .rs io 1 0 32 (some 4), .rs inw 1 0 32 (some 4)] (mk2 io inw σ bo bn) R := by
  induction l with
  | zero => intro e hok hd; simp [Ex.deep] at hd
  | succ l ih =>
    intro e hok hdp io inw hne bo bn hlo hln σ h1 h2 G R h
    obtain ⟨hk, hks⟩ := hok
    have hkd : ∀ k ∈ e.kids, k.deep l = true := fun k hk => deep_kid hdp hk
    have hf : e.fits = true := by simp only [Ex.deep, Bool.and_eq_true] at hdp; exact hdp.1
    have hn0 := fits_n hf
    have harity := hf
    simp only [Ex.fits, Bool.and_eq_true, decide_eq_true_eq] at harity
    have hL : e.kids.length = (Ex.arity e.op).toNat := by omega
    have hrng : (e.op = 2 ∨ e.op = 3) → 0 ≤ e.n ∧ e.n < 32 := fun ho => by
      have := harity.2
      rw [if_neg (by omega), if_pos ho, decide_eq_true_eq] at this
      exact this
    obtain ⟨a1, ha1⟩ : ∃ a1, (if e.op = 3 then bo.set e.n.toNat true else bo) = a1 := ⟨_, rfl⟩
    obtain ⟨b1, hb1⟩ : ∃ b1, (if e.op = 2 then bn.set e.n.toNat true else bn) = b1 := ⟨_, rfl⟩
    have hla : a1.length = 32 := by rw [← ha1]; split <;> simpa using hlo
    have hlb : b1.length = 32 := by rw [← hb1]; split <;> simpa using hln
    have hfa : markB 3 e.lvs bo = markB 3 (e.kids.flatMap Ex.lvs) a1 ∧ markB 2 e.lvs bn = markB 2 (e.kids.flatMap Ex.lvs) b1 := by
      by_cases hke : e.kids = []
      · rw [Ex.lvs_leaf hke, hke, ← ha1, ← hb1]; exact ⟨rfl, rfl⟩
      · have hlen : 0 < e.kids.length := List.length_pos_iff.2 hke
        have ho : e.op ≠ 3 ∧ e.op ≠ 2 := by
          constructor <;> intro ho <;> rw [hL, ho] at hlen <;> simp [Ex.arity] at hlen
        rw [if_neg ho.1] at ha1
        rw [if_neg ho.2] at hb1
        rw [Ex.lvs_node hke, ha1, hb1]; exact ⟨rfl, rfl⟩
    rw [hfa.1, hfa.2] at h
    have g1 := mk2_o (σ := σ) (a := bo) (b := bn) hne h1
    have g2 := mk2_n (io := io) (σ := σ) (a := bo) (b := bn) h2
    simp only [bCells] at g1 g2
    have hml := mk2_len (io := io) (inw := inw) (σ := σ) (a := bo) (b := bn)
    rw [Ex.d_eq]
    refine ac_enterC' [3, 5] mixed Tryd.func56 rfl Tryd.ntmps56 (by simp only [go_sem]) fun hbd => ?_
    simp only [List.length_cons, List.length_nil, Nat.reduceAdd, Nat.reduceSub, List.replicate_succ, List.replicate_zero, List.cons_append, List.nil_append]
    simp only [go_sem]
    refine aw_cut (fun fr st => fr = [.any, .rs io 1 0 32 (some 4), .rs inw 1 0 32 (some 4), .ref (mk2 io inw σ a1 bn).length 0, .any, .any, .any, .any, .any, .any, .any, .any, .any, .any, .any, .any, .any, .any, .any, .any, .any, .any, .any, .any, .any, .any, .any, .any, .any, .any, .any, .any, .any, .any, .any, .any] ∧ st = mk2 io inw σ a1 bn ++ [exA e.op e.w e.n (e.kids.map Ex.d)]) ?_ ?_
    · by_cases o3 : e.op = 3
      · have b3 : (e.op == 3) = true := by simp [o3]
        rw [if_pos o3] at ha1
        have hr := hrng (.inr o3)
        have hsp := splice_set (l := bo.map fun b => A.d (.bool b)) (k := e.n.toNat) (by simp; omega) (db true)
        rw [bset, ha1] at hsp
        simp only [go_sem, b3, live_old g1, objK_old g1, set_old (lt_of_some g1), List.length_map, hlo, Nat.zero_add, hsp]
        exact ⟨by omega, by omega, Wk.mask [1, 2, 3] ⟨by simp only [go_sem, mk2_len], by show List.set (mk2 io inw σ bo bn) io (bCells a1) ++ _ = _; rw [mk2_set_o hne]⟩⟩
      have b3 : (e.op == 3) = false := by simp [o3]
      rw [if_neg o3] at ha1
      subst ha1
      simp only [go_sem, b3]
      exact Wk.mask [1, 2, 3] ⟨rfl, rfl⟩
    rintro fr st ⟨rfl, rfl⟩
    refine aw_cut (fun fr st => fr = [.any, .rs io 1 0 32 (some 4), .rs inw 1 0 32 (some 4), .ref (mk2 io inw σ a1 b1).length 0, .any, .any, .any, .any, .any, .any, .any, .any, .any, .any, .any, .any, .any, .any, .any, .any, .any, .any, .any, .any, .any, .any, .any, .any, .any, .any, .any, .any, .any, .any, .any, .any] ∧ st = mk2 io inw σ a1 b1 ++ [exA e.op e.w e.n (e.kids.map Ex.d)]) ?_ ?_
    · have g2 := mk2_n (io := io) (σ := σ) (a := a1) (b := bn) h2
      simp only [bCells] at g2
      by_cases o2 : e.op = 2
      · have b2 : (e.op == 2) = true := by simp [o2]
        rw [if_pos o2] at hb1
        have hr := hrng (.inl o2)
        have hsp := splice_set (l := bn.map fun b => A.d (.bool b)) (k := e.n.toNat) (by simp; omega) (db true)
        rw [bset, hb1] at hsp
        simp only [go_sem, b2, live_old g2, objK_old g2, set_old (lt_of_some g2), List.length_map, hln, Nat.zero_add, hsp]
        exact ⟨by omega, by omega, Wk.mask [1, 2, 3] ⟨by simp only [go_sem, mk2_len], by show List.set (mk2 io inw σ a1 bn) inw (bCells b1) ++ _ = _; rw [mk2_set_n]⟩⟩
      have b2 : (e.op == 2) = false := by simp [o2]
      rw [if_neg o2] at hb1
      subst hb1
      simp only [go_sem, b2]
      exact Wk.mask [1, 2, 3] ⟨rfl, rfl⟩
    rintro fr st ⟨rfl, rfl⟩
    simp only [go_sem]
    have hkl : e.kids.length ≤ 3 := by
      rw [hL]; unfold Ex.arity
      split
      · decide
      · split
        · decide
        · split
          · decide
          · split <;> decide
    refine aw_loop (fun m fr st => ∃ j : Nat, j ≤ e.kids.length ∧ m = e.kids.length - j ∧ ∃ x y : List Bool, x = markB 3 ((e.kids.take j).flatMap Ex.lvs) a1 ∧ y = markB 2 ((e.kids.take j).flatMap Ex.lvs) b1 ∧ fr = [.any, .rs io 1 0 32 (some 4), .rs inw 1 0 32 (some 4), .ref (mk2 io inw σ x y).length 0, .any, .any, dn j, .any, .any, .any, .any, .any, .any, .any, .any, .any, .any, .any, .any, .any, .any, .any, .any, .any, .any, .any, .any, .any, .any, .any, .any, .any, .any, .any, .any, .any] ∧ st = mk2 io inw σ x y ++ [exA e.op e.w e.n (e.kids.map Ex.d)]) e.kids.length _ (Wk.mask [1, 2, 3, 6] ⟨0, by omega, rfl, a1, b1, rfl, rfl, rfl, rfl⟩) ?_
    rintro m fr st ⟨j, hj, hm, x, y, hx, hy, rfl, rfl⟩
    rcases Nat.lt_or_ge j e.kids.length with hlt | hge
    · have hd : decide ((j : Int) < (e.kids.length : Int)) = true := by simp; omega
      have hkk := kid_d hlt
      simp only [go_sem, hd, hkk, List.length_map, Int.toNat_natCast]
      refine ⟨⟨by omega, by omega⟩, ac' ?_⟩
      have e1 : D.agg [iD (e.kids.getD j (Ex.mk 0 0 0 [])).op, iD (e.kw j), iD (e.kids.getD j (Ex.mk 0 0 0 [])).n, D.sl 4 (List.map Ex.d (e.kids.getD j (Ex.mk 0 0 0 [])).kids)] = (e.kids.getD j (Ex.mk 0 0 0 [])).d := (Ex.d_eq _).symm
      have hm := getD_mem (Ex.mk 0 0 0 []) hlt
      have htk : e.kids.take (j + 1) = e.kids.take j ++ [e.kids.getD j (Ex.mk 0 0 0 [])] := take_snoc _ hlt
      generalize e.kids.getD j (Ex.mk 0 0 0 []) = k at *
      have hx2 : markB 3 k.lvs x = markB 3 ((e.kids.take (j + 1)).flatMap Ex.lvs) a1 := by
        rw [htk, List.flatMap_append, markB_append, ← hx]; simp
      have hy2 : markB 2 k.lvs y = markB 2 ((e.kids.take (j + 1)).flatMap Ex.lvs) b1 := by
        rw [htk, List.flatMap_append, markB_append, ← hy]; simp
      have w1 := wrapS j (by omega)
      rw [e1, ← mk2_app h1 h2]
      refine ih k (hks k hm) (hkd k hm) hne x y (by rw [hx, markB_len, hla]) (by rw [hy, markB_len, hlb]) _ (by simp; omega) (by simp; omega) G _ fun r => ?_
      rw [mk2_app h1 h2, hx2, hy2]
      simp only [go_sem, w1]
      exact Wk.mask [1, 2, 3, 6] ⟨e.kids.length - (j + 1), by omega, j + 1, by omega, rfl, _, _, rfl, rfl, by simp only [go_sem, mk2_len], rfl⟩
    · have hd : decide ((j : Int) < (e.kids.length : Int)) = false := by simp; omega
      obtain rfl : j = e.kids.length := by omega
      rw [List.take_length] at hx hy
      subst hx hy
      simp only [go_sem, hd, List.length_map, Tryd.results56]
      have hb := mk2_bd (io := io) (inw := inw) (a := markB 3 (e.kids.flatMap Ex.lvs) a1) (b := markB 2 (e.kids.flatMap Ex.lvs) b1) hbd
      rw [mk2_mk2 hne] at hb
      exact ⟨.tup [], _, Weak.cut (by simp only [mk2_len, Nat.le_refl]) hb rfl, h _⟩
set_option maxHeartbeats 4000000 in
theorem rsupport_ac (e : Ex) (hok : e.Ok) (hf : e.formed = true) (σ : St) (G : Glob) (R : A → St → Prop) (h : R (.tup [.d (isD (idxL (supB 3 e) 32)), .d (isD (idxL (supB 2 e) 32))]) σ) : AC Tryd.prog G 36 [.d e.d] σ R := by
  rw [Ex.d_eq]
  refine ac_enter' mixed Tryd.func36 rfl Tryd.ntmps36 (by simp only [go_sem]) fun hbd => ?_
  simp only [List.length_cons, List.length_nil, Nat.reduceAdd, Nat.reduceSub, List.replicate_succ, List.replicate_zero, List.cons_append, List.nil_append]
  simp only [go_sem]
  rw [← Ex.d_eq e]
  refine ac' (formed_ac e hok _ _ _ ?_)
  rw [hf]
  simp only [go_sem, Bool.not_true]
  refine ⟨by decide, by decide, ?_⟩
  have hT : Int.toNat 32 = 32 := rfl
  rw [hT, falses_cells]
  rw [← Ex.d_eq e]
  have hS : σ ++ [exA e.op e.w e.n (e.kids.map Ex.d), bCells (List.replicate 32 false), bCells (List.replicate 32 false)] = mk2 (σ.length + 1) (σ.length + 2) (σ ++ [exA e.op e.w e.n (e.kids.map Ex.d), bCells (List.replicate 32 false), bCells (List.replicate 32 false)]) (List.replicate 32 false) (List.replicate 32 false) := (mk2_self (by simp) (by simp)).symm
  refine ac' ?_
  show AC _ _ _ _ (σ ++ [exA e.op e.w e.n (e.kids.map Ex.d), bCells (List.replicate 32 false), bCells (List.replicate 32 false)]) _
  rw [hS]
  refine marks_ac 40 e hok (formed_deep hf) (by omega) _ _ (by simp) (by simp) _ (by simp) (by simp) G _ fun r => ?_
  have hS2 : mk2 (σ.length + 1) (σ.length + 2) (σ ++ [exA e.op e.w e.n (e.kids.map Ex.d), bCells (List.replicate 32 false), bCells (List.replicate 32 false)]) (markB 3 e.lvs (List.replicate 32 false)) (markB 2 e.lvs (List.replicate 32 false)) = σ ++ [exA e.op e.w e.n (e.kids.map Ex.d), bCells (supB 3 e), bCells (supB 2 e)] := by
    simp [mk2, supB]
  rw [hS2]
  simp only [bCells, go_sem]
  refine ac' (ac_frz 1 1 0 ((supB 3 e).map D.bool) rfl (lies_map D.bool (fun _ => ⟨rfl, rfl⟩) _) ?_)
  simp only [go_sem]
  have l1 : ((supB 3 e).map D.bool).length = 32 := by rw [List.length_map, supB_len]
  have l2 : ((supB 2 e).map D.bool).length = 32 := by rw [List.length_map, supB_len]
  rw [if_pos l1.symm]
  refine marked_ac (supB 3 e) (by rw [supB_len]; decide) _ _ _ ?_
  rw [supB_len]
  refine ac' (ac_frz 2 1 0 ((supB 2 e).map D.bool) rfl (lies_map D.bool (fun _ => ⟨rfl, rfl⟩) _) ?_)
  simp only [go_sem]
  rw [if_pos l2.symm]
  refine marked_ac (supB 2 e) (by rw [supB_len]; decide) _ _ _ ?_
  rw [supB_len]
  simp only [go_sem, Tryd.results36]
  exact ret_bd hbd rfl h
set_option maxHeartbeats 8000000 in
/-- The reference's merge. -/
theorem merge_ac (x y : List Int) (hx : x.length ≤ 1000) (hy : y.length ≤ 1000) (hxi : ∀ i ∈ x, 0 ≤ i ∧ i < 32) (hyi : ∀ i ∈ y, 0 ≤ i ∧ i < 32) (σ : St) (G : Glob) (R : A → St → Prop) (h : R (.d (isD (idxL (markI y (markI x (List.replicate 32 false))) 32))) σ) : AC Tryd.prog G 37 [dL x, dL y] σ R := by
  refine ac_enterC' [6, 10] mixed Tryd.func37 rfl Tryd.ntmps37 (by simp only [go_sem]) fun hbd => ?_
  simp only [List.length_cons, List.length_nil, Nat.reduceAdd, Nat.reduceSub, List.replicate_succ, List.replicate_zero, List.cons_append, List.nil_append]
  simp only [dL, isD, go_sem]
  refine ⟨by decide, ?_⟩
  have hT : Int.toNat 32 = 32 := rfl
  rw [hT, falses_cells]
  refine aw_cut (fun fr st => fr = [.any, .d (.sl 1 (y.map iD)), .any, .any, .any, .rs σ.length 1 0 32 (some 4), .any, .any, .any, .any, .any, .any, .any, .any, .any, .any, .any, .any, .any, .any, .any, .any, .any, .any, .any, .any, .any, .any, .any, .any, .any, .any, .any, .any, .any] ∧ st = σ ++ [bCells (markI x (List.replicate 32 false))]) ?_ ?_
  · simp only [go_sem]
    refine aw_loop (fun m fr st => ∃ j : Nat, j ≤ x.length ∧ m = x.length - j ∧ ∃ b : List Bool, b = markI (x.take j) (List.replicate 32 false) ∧ fr = [.d (.sl 1 (x.map iD)), .d (.sl 1 (y.map iD)), .any, .any, .any, .rs σ.length 1 0 32 (some 4), dn j, .any, .any, .any, .any, .any, .any, .any, .any, .any, .any, .any, .any, .any, .any, .any, .any, .any, .any, .any, .any, .any, .any, .any, .any, .any, .any, .any, .any] ∧ st = σ ++ [bCells b]) x.length _ (Wk.mask [0, 1, 5, 6] ⟨0, by omega, rfl, _, rfl, rfl, rfl⟩) ?_
    rintro m fr st ⟨j, hj, hm, b, hb, rfl, rfl⟩
    have hbl : b.length = 32 := by rw [hb, markI_len]; simp
    rcases Nat.lt_or_ge j x.length with hlt | hge
    · have hd : decide ((j : Int) < (x.length : Int)) = true := by simp; omega
      have e1 := getD_isD (l := x) (j := j) (by omega)
      have hr := hxi _ (getD_mem 0 hlt)
      have w1 := wrapS j (by omega)
      have hsn := markI_snoc (x.take j) (x.getD j 0) (List.replicate 32 false)
      rw [← take_snoc 0 hlt, ← hb] at hsn
      generalize x.getD j 0 = q at *
      have hsp := splice_set (l := b.map fun b => A.d (.bool b)) (k := q.toNat) (by simp; omega) (db true)
      rw [bset] at hsp
      simp only [go_sem, bCells, hd, e1, w1, List.length_map, Int.toNat_natCast, hbl, Nat.zero_add, hsp]
      refine ⟨⟨by omega, by omega⟩, ⟨by omega, by omega⟩, by omega, Wk.mask [0, 1, 5, 6] ⟨x.length - (j + 1), by omega, j + 1, by omega, rfl, _, rfl, by simp only [go_sem], by rw [hsn]⟩⟩
    · have hd : decide ((j : Int) < (x.length : Int)) = false := by simp; omega
      obtain rfl : j = x.length := by omega
      rw [List.take_length] at hb
      simp only [go_sem, hd, List.length_map]
      exact Wk.mask [1, 5] ⟨by simp only [go_sem], by rw [hb]⟩
  rintro fr st ⟨rfl, rfl⟩
  obtain ⟨a, ha⟩ : ∃ a, markI x (List.replicate 32 false) = a := ⟨_, rfl⟩
  have hal : a.length = 32 := by rw [← ha, markI_len]; simp
  rw [ha] at h ⊢
  refine aw_cut (fun fr st => fr = [.any, .any, .any, .any, .any, .rs σ.length 1 0 32 (some 4), .any, .any, .any, .any, .any, .any, .any, .any, .any, .any, .any, .any, .any, .any, .any, .any, .any, .any, .any, .any, .any, .any, .any, .any, .any, .any, .any, .any, .any] ∧ st = σ ++ [bCells (markI y a)]) ?_ ?_
  · simp only [go_sem]
    refine aw_loop (fun m fr st => ∃ j : Nat, j ≤ y.length ∧ m = y.length - j ∧ ∃ b : List Bool, b = markI (y.take j) a ∧ fr = [.any, .d (.sl 1 (y.map iD)), .any, .any, .any, .rs σ.length 1 0 32 (some 4), .any, dn j, .any, .any, .any, .any, .any, .any, .any, .any, .any, .any, .any, .any, .any, .any, .any, .any, .any, .any, .any, .any, .any, .any, .any, .any, .any, .any, .any] ∧ st = σ ++ [bCells b]) y.length _ (Wk.mask [1, 5, 7] ⟨0, by omega, rfl, _, rfl, rfl, rfl⟩) ?_
    rintro m fr st ⟨j, hj, hm, b, hb, rfl, rfl⟩
    have hbl : b.length = 32 := by rw [hb, markI_len]; exact hal
    rcases Nat.lt_or_ge j y.length with hlt | hge
    · have hd : decide ((j : Int) < (y.length : Int)) = true := by simp; omega
      have e1 := getD_isD (l := y) (j := j) (by omega)
      have hr := hyi _ (getD_mem 0 hlt)
      have w1 := wrapS j (by omega)
      have hsn := markI_snoc (y.take j) (y.getD j 0) a
      rw [← take_snoc 0 hlt, ← hb] at hsn
      generalize y.getD j 0 = q at *
      have hsp := splice_set (l := b.map fun b => A.d (.bool b)) (k := q.toNat) (by simp; omega) (db true)
      rw [bset] at hsp
      simp only [go_sem, bCells, hd, e1, w1, List.length_map, Int.toNat_natCast, hbl, Nat.zero_add, hsp]
      refine ⟨⟨by omega, by omega⟩, ⟨by omega, by omega⟩, by omega, Wk.mask [1, 5, 7] ⟨y.length - (j + 1), by omega, j + 1, by omega, rfl, _, rfl, by simp only [go_sem], by rw [hsn]⟩⟩
    · have hd : decide ((j : Int) < (y.length : Int)) = false := by simp; omega
      obtain rfl : j = y.length := by omega
      rw [List.take_length] at hb
      simp only [go_sem, hd, List.length_map]
      exact Wk.mask [5] ⟨by simp only [go_sem], by rw [hb]⟩
  rintro fr st ⟨rfl, rfl⟩
  have hl2 : (markI y a).length = 32 := by rw [markI_len]; exact hal
  simp only [go_sem, bCells]
  refine ac' (ac_frz 0 1 0 ((markI y a).map D.bool) rfl (lies_map D.bool (fun _ => ⟨rfl, rfl⟩) _) ?_)
  simp only [go_sem, List.length_map, hl2]
  refine marked_ac (markI y a) (by omega) _ _ _ ?_
  rw [hl2]
  simp only [go_sem, Tryd.results37]
  exact ret_bd hbd rfl h
end Go.Proofs.YtkjlefahpdconaaDoor
end PartD12

section PartD4
/- Law 22.2: meaning. -/
set_option linter.unusedSimpArgs false
set_option linter.unusedVariables false
set_option maxRecDepth 100000
namespace Go.Proofs.YtkjlefahpdconaaDoor
open Go Go.Ab

/-- A condition as a cell. -/
abbrev cdO (c : Cnd) : Option Ob := some (.cells [.d (.str c.id), di c.kind, di c.mod, di c.thread, di c.item, di c.other, di c.hyp.op, di c.hyp.w, di c.hyp.n, .d (.sl 4 (c.hyp.kids.map Ex.d)), di c.goal.op, di c.goal.w, di c.goal.n, .d (.sl 4 (c.goal.kids.map Ex.d))])
set_option maxHeartbeats 16000000 in
theorem law7_ac (cs : List Cel) (hc : cs.length ≤ reachBytes) (c : Cnd) (hok : c.Ok) (old now : List Int) (ho : old.length ≤ reachBytes) (hn : now.length ≤ reachBytes) (σ : St) (G : Glob) (hG : G.g 0 = some masksD) (R : A → St → Prop) (h : R (db true) σ) : AC Tryd.prog G 7 [.d (celsD cs), .d (cndD c), dL old, dL now] σ R := by
  refine ac_enterC' [4, 6, 12, 13, 14, 15] mixed Tryd.func7 rfl Tryd.ntmps7 (by simp only [go_sem]) fun hbd => ?_
  simp only [List.length_cons, List.length_nil, Nat.reduceAdd, Nat.reduceSub, List.replicate_succ, List.replicate_zero, List.cons_append, List.nil_append]
  simp only [cndD, go_sem]
  refine ac' (head_ac _ _ hG _ ?_)
  simp only [go_sem]
  refine aw_cut (fun fr st => (encR cs c = true ∧ old.length ≤ 50 ∧ now.length ≤ 50) ∧ fr = [.d (celsD cs), .any, dL old, dL now, .any, .ref σ.length 0, .any, .any, .any, db true, .any, .any, .any, .any, .any, .any, .any, .any, .any, .any, .any, .any, .any, .any, .any, .any, .any, .any, .any, .any, .any, .any, .any, .any, .any, .any, .any, .any, .any, .any, .any, .any, .any, .any, .any, .any, .any, .any, .any, .any, .any, .any, .any, .any, .any, .any, .any, .any, .any, .any, .any, .any, .any, .any, .any, .any, .any, .any, .any, .any, .any, .any, .any, .any, .any, .any, .any, .any, .any, .any, .any, .any, .any, .any, .any, .any, .any, .any, .any, .any, .any, .any, .any, .any, .any, .any, .any, .any, .any, .any, .any] ∧ st = σ ++ [cdO c]) ?_ ?_
  · simp only [go_sem]
    rw [← cndD]
    refine ac' (lsmall_ac cs hc c hok 60 (by omega) _ _ _ ?_)
    cases hB : (smallR cs c 60 && encR cs c)
    · simp only [dL, isD, go_sem, Bool.not_false, Tryd.results7]
      exact ret_d hbd h
    have he : encR cs c = true := by rw [Bool.and_eq_true] at hB; exact hB.2
    simp only [dL, isD, go_sem, Bool.not_true, List.length_map, Tryd.results7]
    refine ⟨fun q => ret_d hbd h, fun q => ?_⟩
    simp only [Bool.false_or, Bool.or_eq_false_iff, decide_eq_false_iff_not, Bool.or_eq_true, not_or] at q
    refine Wk.mask [0, 2, 3, 5, 9] ⟨⟨he, ?_, ?_⟩, rfl, rfl⟩
    · omega
    · omega
  rintro fr st ⟨⟨he, ho5, hn5⟩, rfl, rfl⟩
  have E := enc_of he
  simp only [go_sem]
  rw [← cndD]
  refine ac' (neg_ac cs c hok he _ _ hG _ ?_)
  cases ht : transM cs c.hyp c.goal [] with
  | none =>
    have hneg : negR cs c = (⟨0, []⟩, 2) := by rw [negR, ht]
    have hext : extR cs c old now = ([], 2) := by rw [extR, ht]
    rw [hneg]
    simp only [cnfD, go_sem]
    refine aw_cut (fun fr st => fr = [.any, .any, .any, .any, .any, .any, .any, .any, .any, db true, .any, di 2, .any, di 2, .any, .any, .any, .any, .any, .any, .any, .any, .any, .any, .any, .any, .any, .any, .any, .any, .any, .any, .any, .any, .any, .any, .any, .any, .any, .any, .any, .any, .any, .any, .any, .any, .any, .any, .any, .any, .any, .any, .any, .any, .any, .any, .any, .any, .any, .any, .any, .any, .any, .any, .any, .any, .any, .any, .any, .any, .any, .any, .any, .any, .any, .any, .any, .any, .any, .any, .any, .any, .any, .any, .any, .any, .any, .any, .any, .any, .any, .any, .any, .any, .any, .any, .any, .any, .any, .any, .any] ∧ st = σ) ?_ ?_
    · simp only [go_sem]
      rw [← cndD]
      refine ac' (ext_ac cs c hok he old now ho hn _ _ hG _ ?_)
      rw [hext]
      simp only [go_sem]
      exact Wk.keep [9, 11, 13] [] (by decide) (Nat.le_refl _) hbd ⟨by simp only [go_sem], by simp only [go_sem]⟩
    rintro fr st ⟨rfl, rfl⟩
    simp only [go_sem, Int.reduceBNe, Int.reduceBEq, Tryd.results7]
    exact ret_d0 h
  | some p =>
    obtain ⟨root, gs⟩ := p
    have t := E.tr ht
    have hneg : negR cs c = (negF (firstV cs c.hyp c.goal) (root, gs), 0) := by rw [negR, ht]
    have hext : extR cs c old now = (extV cs c.hyp c.goal old now gs, 0) := by rw [extR, ht]
    have hvl : (extV cs c.hyp c.goal old now gs).length = firstV cs c.hyp c.goal + gs.length := ext_len
    have hfl := t.len
    have hfs : ∀ x ∈ (negF (firstV cs c.hyp c.goal) (root, gs)).cls, x.length ≤ reachBytes := fun x hx => reach_le (Nat.le_trans (neg_short x hx) (by omega))
    have hml : ∀ x ∈ mostC (firstV cs c.hyp c.goal) gs, x.length ≤ reachBytes := fun x hx => reach_le (Nat.le_trans (most_short x hx) (by omega))
    have hfit := t.good.fit.1
    have hmean := E.meaning (old := old) (now := now) t
    have hmost := (t.most (vs := extV cs c.hyp c.goal old now gs)).2 hmean.1
    have hlast := t.last (vs := extV cs c.hyp c.goal old now gs)
    have hfine := t.fine
    rw [hmean.2] at hlast
    obtain ⟨V, hV⟩ : ∃ V, extV cs c.hyp c.goal old now gs = V := ⟨_, rfl⟩
    obtain ⟨N, hN⟩ : ∃ N, firstV cs c.hyp c.goal + gs.length = N := ⟨_, rfl⟩
    obtain ⟨M, hM⟩ : ∃ M, mostC (firstV cs c.hyp c.goal) gs = M := ⟨_, rfl⟩
    rw [hV] at hvl hext hmost hlast
    rw [hN] at hvl hmost hlast hfit
    rw [negF] at hneg hfs hfl hfine
    simp only [hN] at hneg hfs hfl hfine
    rw [hM] at hmost hneg hfs hfl hfine hml
    have ht1 : List.take M.length ((M ++ [[root]]).map isD) = M.map isD := by rw [List.map_append, List.take_left' (by simp)]
    have ht2 : List.drop M.length (List.take (M.length + 1) ((M ++ [[root]]).map isD)) = [isD [root]] := by
      rw [List.take_of_length_le (by simp), List.map_append, List.drop_left' (by simp)]; rfl
    rw [hneg]
    simp only [cnfD, go_sem]
    refine aw_cut (fun fr st => fr = [.any, .any, dL old, dL now, .any, .ref σ.length 0, .any, .any, .any, db true, .ref (σ.length + 1) 0, di 0, .d (bsD V), di 0, .any, .any, .any, .any, .any, .any, .any, .any, .any, .any, .any, .any, .any, .any, .any, .any, .any, .any, .any, .any, .any, .any, .any, .any, .any, .any, .any, .any, .any, .any, .any, .any, .any, .any, .any, .any, .any, .any, .any, .any, .any, .any, .any, .any, .any, .any, .any, .any, .any, .any, .any, .any, .any, .any, .any, .any, .any, .any, .any, .any, .any, .any, .any, .any, .any, .any, .any, .any, .any, .any, .any, .any, .any, .any, .any, .any, .any, .any, .any, .any, .any, .any, .any, .any, .any, .any, .any] ∧ st = σ ++ [cdO c, some (.cells [dn N, .d (clsD (M ++ [[root]]))])]) ?_ ?_
    · simp only [go_sem]
      rw [← cndD]
      refine ac' (ext_ac cs c hok he old now ho hn _ _ hG _ ?_)
      rw [hext]
      simp only [go_sem]
      exact Wk.mask [2, 3, 5, 9, 10, 11, 12, 13] ⟨by simp only [go_sem], by simp only [go_sem]⟩
    rintro fr st ⟨rfl, rfl⟩
    simp only [go_sem, Int.reduceBNe, Int.reduceBEq, Tryd.results7]
    refine aw_cut (fun fr st => fr = [.any, .any, dL old, dL now, .any, .ref σ.length 0, .any, .any, .any, db true, .ref (σ.length + 1) 0, .any, .d (bsD V), .any, .any, .any, .any, .any, .any, .any, .any, .any, .any, .any, .any, .any, .any, .any, .any, .any, .any, .any, .any, .any, .any, .any, .any, .any, .any, .any, .any, .any, .any, .any, .any, .any, .any, .any, .any, .any, .any, .any, .any, .any, .any, .any, .any, .any, .any, .any, .any, .any, .any, .any, .any, .any, .any, .any, .any, .any, .any, .any, .any, .any, .any, .any, .any, .any, .any, .any, .any, .any, .any, .any, .any, .any, .any, .any, .any, .any, .any, .any, .any, .any, .any, .any, .any, .any, .any, .any, .any] ∧ st = σ ++ [cdO c, some (.cells [dn N, .d (clsD (M ++ [[root]]))])]) ?_ ?_
    · simp only [go_sem, Int.reduceBNe, Int.reduceBEq, Tryd.results7]
      refine exs ⟨fun _ => ?_, fun h => Bool.noConfusion h⟩
      simp only [go_sem]
      refine ac' (fine_ac ⟨N, M ++ [[root]]⟩ (reach_le (show (M ++ [[root]]).length ≤ 100000 by omega)) hfs _ _ _ ?_)
      rw [hfine]
      have e1 : ((N : Int) != (N : Int)) = false := by simp
      simp only [bsD, go_sem, List.length_map, hvl, Bool.not_true, Int.reduceBNe, e1, Tryd.results7]
      exact Wk.mask [2, 3, 5, 9, 10, 12] ⟨by simp only [go_sem], by simp only [go_sem]⟩
    rintro fr st ⟨rfl, rfl⟩
    simp only [clsD, go_sem, List.length_map, List.length_append, List.length_cons, List.length_nil]
    refine aw_cut (fun fr st => fr = [.any, .any, dL old, dL now, .any, .ref σ.length 0, .any, .any, .any, db true, .ref (σ.length + 1) 0, .any, .d (bsD V), .any, dn M.length, .any, .any, .any, .any, .any, .any, .any, .any, .any, .any, .any, .any, .any, .any, .any, .any, .any, .any, .any, .any, .any, .any, .any, .any, .any, .any, .any, .any, .any, .any, .any, .any, .any, .any, .any, .any, .any, .any, .any, .any, .any, .any, .any, .any, .any, .any, .any, .any, .any, .any, .any, .any, .any, .any, .any, .any, .any, .any, .any, .any, .any, .any, .any, .any, .any, .any, .any, .any, .any, .any, .any, .any, .any, .any, .any, .any, .any, .any, .any, .any, .any, .any, .any, .any, .any, .any] ∧ st = σ ++ [cdO c, some (.cells [dn N, .d (clsD (M ++ [[root]]))])]) ?_ ?_
    · have w1 : IntKind.i64.wrap (((M.length + 1 : Nat) : Int) - 1) = (M.length : Nat) := by
        simp only [List.length_append, List.length_cons, List.length_nil] at hfl
        rw [wrap64_id _ (by omega) (by omega)]; omega
      simp only [clsD, go_sem, List.length_map, List.length_append, List.length_cons, List.length_nil, Nat.zero_add, w1]
      exact Wk.mask [2, 3, 5, 9, 10, 12, 14] ⟨by simp only [go_sem], by simp only [clsD, go_sem]⟩
    rintro fr st ⟨rfl, rfl⟩
    refine aw_cut (fun fr st => fr = [.any, .any, dL old, dL now, .any, .ref σ.length 0, .any, .any, .any, db true, .ref (σ.length + 1) 0, .any, .d (bsD V), .any, dn M.length, .ref (σ.length + 2) 0, .any, .any, .any, .any, .any, .any, .any, .any, .any, .any, .any, .any, .any, .any, .any, .any, .any, .any, .any, .any, .any, .any, .any, .any, .any, .any, .any, .any, .any, .any, .any, .any, .any, .any, .any, .any, .any, .any, .any, .any, .any, .any, .any, .any, .any, .any, .any, .any, .any, .any, .any, .any, .any, .any, .any, .any, .any, .any, .any, .any, .any, .any, .any, .any, .any, .any, .any, .any, .any, .any, .any, .any, .any, .any, .any, .any, .any, .any, .any, .any, .any, .any, .any, .any, .any] ∧ st = σ ++ [cdO c, some (.cells [dn N, .d (clsD (M ++ [[root]]))]), some (.cells [dn N, .d (clsD M)])]) ?_ ?_
    · simp only [go_sem]
      refine aw_plan (.tk 9 0 <| .done) (by kernel_rfl) ?_
      simp only [clsD, go_sem, List.length_map, List.length_append, List.length_cons, List.length_nil, Nat.zero_add]
      rw [ht1]
      exact ⟨⟨by omega, by omega, by omega⟩, Wk.mask [2, 3, 5, 9, 10, 12, 14, 15] ⟨by simp only [go_sem], by simp only [go_sem]⟩⟩
    rintro fr st ⟨rfl, rfl⟩
    refine aw_cut (fun fr st => fr = [.any, .any, dL old, dL now, .any, .ref σ.length 0, .any, .any, .any, db true, .any, .any, .d (bsD V), .any, .any, .ref (σ.length + 1) 0, .ref (σ.length + 2) 0, .any, .any, .any, .any, .any, .any, .any, .any, .any, .any, .any, .any, .any, .any, .any, .any, .any, .any, .any, .any, .any, .any, .any, .any, .any, .any, .any, .any, .any, .any, .any, .any, .any, .any, .any, .any, .any, .any, .any, .any, .any, .any, .any, .any, .any, .any, .any, .any, .any, .any, .any, .any, .any, .any, .any, .any, .any, .any, .any, .any, .any, .any, .any, .any, .any, .any, .any, .any, .any, .any, .any, .any, .any, .any, .any, .any, .any, .any, .any, .any, .any, .any, .any, .any] ∧ st = σ ++ [cdO c, some (.cells [dn N, .d (clsD M)]), some (.cells [dn N, .d (clsD [[root]])])]) ?_ ?_
    · simp only [go_sem]
      refine aw_plan (.tk 9 0 <| .done) (by kernel_rfl) ?_
      simp only [clsD, go_sem, List.length_map, List.length_append, List.length_cons, List.length_nil, Nat.zero_add]
      rw [ht2]
      refine ⟨⟨by omega, by omega, by omega⟩, Wk.keep [2, 3, 5, 9, 12, 15, 16] [0, 2, 3] (by decide) (Nat.le_refl _) hbd ⟨by simp only [go_sem], by simp only [List.map_cons, List.map_nil, go_sem]⟩⟩
    rintro fr st ⟨rfl, rfl⟩
    simp only [go_sem]
    refine aw_plan (.tk 4 0 <| .pure 4 <| .tk 4 5 <| .tk 2 11 <| .pure 9 <| .take 10 <| .pure 13 <| .tk 3 14 <| .done) (by kernel_rfl) ?_
    simp only [go_sem]
    refine exQ (.bool true) ⟨fun _ => ?_, ?_⟩
    · simp only [go_sem]
      exact fun σ' => ac' (ceval_ac ⟨N, M⟩ V (reach_le (show M.length ≤ 100000 by simp only [List.length_append] at hfl; omega)) hml (reach_le (by omega)) _ _ _ ⟨by rw [hmost], rfl⟩)
    simp only [go_sem, Tryd.results7]
    refine exQ (.bool (bad c old now)) ⟨fun _ => ?_, ?_⟩
    · simp only [go_sem]
      refine fun σ' => ac' (ceval_ac ⟨N, [[root]]⟩ V (by simp [reachBytes]) (by simp [reachBytes]) (reach_le (by omega)) _ _ _ ⟨by rw [hlast]; rfl, rfl⟩)
    simp only [go_sem, Tryd.results7]
    refine exQ (.bool (bad c old now)) ⟨fun _ => ?_, ?_⟩
    · simp only [go_sem]
      rw [← cndD]
      refine fun σ' => ac' (violated_ac c hok E.hf E.gf old now ho hn _ _ hG _ ⟨rfl, rfl⟩)
    have e1 : (bad c old now == bad c old now) = true := by simp
    simp only [go_sem, e1, Tryd.results7]
    exact ret_d hbd h
end Go.Proofs.YtkjlefahpdconaaDoor
end PartD4
