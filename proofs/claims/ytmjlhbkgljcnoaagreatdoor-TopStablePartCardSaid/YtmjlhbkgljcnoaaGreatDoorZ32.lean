import Derived.Test.YtmjlhbkgljcnoaaGreatDoorZ31

section PartT4
/- The program's well-formedness: exactly the reference's, for at most 600 nodes. -/
set_option linter.unusedSimpArgs false
set_option linter.unusedVariables false
set_option maxRecDepth 100000
namespace Go.Proofs.YtmjlhbkgljcnoaaGreatDoor
open Go Go.Ab

theorem deep_eq (e : Ex) (l : Nat) : e.deep (l + 1) = (e.fits && e.kids.all fun k => k.deep l) := by cases e; simp only [Ex.deep]
set_option maxHeartbeats 4000000 in
theorem visit_ac (l : Nat) : ∀ (e : Ex) (hok : e.Ok) (dep cnt : Nat) (hdl : dep + l = 41) (hcnt : cnt + e.nodes ≤ 600) (ic iv : Nat) (hne : ic ≠ iv) (σ : St) (hc : σ[ic]? = some (some (.cells [dn cnt])))
    (hv : σ[iv]? = some (some (.cells [.fn (.func 84) [] [.ref ic 0, .ref iv 0]]))) (G : Glob) (hG : G.g 0 = some masksD) (R : A → St → Prop) (h : ∀ c : Nat, (e.deep l = true → c = cnt + e.nodes) → R (db (e.deep l)) (σ.set ic (some (.cells [dn c])))), AC Tryz.prog G 84 [.ea e.d 0, dn dep, .ref ic 0, .ref iv 0] σ R := by
  induction l with
  | zero =>
    intro e hok dep cnt hdl hcnt ic iv hne σ hc hv G hG R h
    have hz : e.deep 0 = false := by simp [Ex.deep]
    have hn1 : 1 ≤ e.nodes := by rw [Ex.nodes_eq]; omega
    have w1 := wrapS cnt (by omega)
    have hc1 : (σ.set ic (some (.cells [dn (cnt + 1)])))[ic]? = some (some (.cells [dn (cnt + 1)])) := set_same hc
    have d1 : decide ((600 : Int) < ((cnt + 1 : Nat) : Int)) = false := by simp; omega
    have d2 : decide ((40 : Int) < (dep : Int)) = true := by simp; omega
    rw [Ex.d_eq]
    refine ac_enterC' [4] mixed Tryz.func84 rfl Tryz.ntmps84 (by simp only [go_sem]) fun hbd => ?_
    simp only [List.length_cons, List.length_nil, Nat.reduceAdd, Nat.reduceSub, List.replicate_succ, List.replicate_zero, List.cons_append, List.nil_append]
    simp only [go_sem, live_of hc, objK_of hc, w1]
    refine aw_cut (fun _ _ => False) ?_ (fun _ _ h => h.elim)
    simp only [go_sem, live_of hc, objK_of hc, w1, live_of hc1, objK_of hc1, d1, d2]
    refine ex' (.bool true) ⟨fun q => Bool.noConfusion q, ?_⟩
    simp only [go_sem, live_of hc1, objK_of hc1, d1, d2, Tryz.results84]
    refine ⟨_, _, Weak.refl _ _ _ _, ?_⟩
    rw [hz] at h
    exact h (cnt + 1) (fun q => Bool.noConfusion q)
  | succ l ih =>
    intro e hok dep cnt hdl hcnt ic iv hne σ hc hv G hG R h
    obtain ⟨hk, hks⟩ := hok
    have hnd := e.nodes_eq
    have w1 := wrapS cnt (by omega)
    have hic := lt_of_some hc
    have hc1 : (σ.set ic (some (.cells [dn (cnt + 1)])))[ic]? = some (some (.cells [dn (cnt + 1)])) := set_same hc
    have d1 : decide ((600 : Int) < ((cnt + 1 : Nat) : Int)) = false := by simp; omega
    have d2 : decide ((40 : Int) < (dep : Int)) = false := by simp; omega
    rw [deep_eq] at h
    rw [Ex.d_eq]
    refine ac_enterC' [4] mixed Tryz.func84 rfl Tryz.ntmps84 (by simp only [go_sem]) fun hbd => ?_
    simp only [List.length_cons, List.length_nil, Nat.reduceAdd, Nat.reduceSub, List.replicate_succ, List.replicate_zero, List.cons_append, List.nil_append]
    simp only [go_sem, live_of hc, objK_of hc, w1]
    refine aw_cut (fun fr st => e.fits = true ∧ fr = [.ea (.agg [iD e.op, iD e.w, iD e.n, .sl 4 (e.kids.map Ex.d)]) 0, dn dep, .ref ic 0, .ref iv 0, .any, .any, .any, .any, .any, .any, .any, .any, .any, .any, .any, .any, .any, .any, .any, .any, .any, .any, .any, .any, .any, .any, .any, .any, .any, .any, .any, .any, .any, .any, .any, .any, .any, .any, .any, .any, .any] ∧ st = σ.set ic (some (.cells [dn (cnt + 1)]))) ?_ ?_
    · simp only [go_sem, live_of hc, objK_of hc, w1, live_of hc1, objK_of hc1, d1, d2]
      refine ex' (.bool e.fits) ⟨fun q => ?_, ?_⟩
      · simp only [go_sem]
        rw [← Ex.d_eq e]
        refine ac' (shaped_ac e hk _ _ hG _ ?_)
        exact ⟨rfl, rfl⟩
      simp only [go_sem, d1, d2, Tryz.results84]
      refine ⟨fun q => ⟨_, _, Weak.refl _ _ _ _, ?_⟩, fun q => Wk.mask [0, 1, 2, 3] ⟨by simpa using q, rfl, rfl⟩⟩
      have q' : e.fits = false := by simpa using q
      rw [q', Bool.false_and] at h
      exact h (cnt + 1) (fun q => Bool.noConfusion q)
    rintro fr st ⟨hf, rfl, rfl⟩
    rw [hf, Bool.true_and] at h
    simp only [go_sem, List.length_map, Tryz.results84]
    refine aw_loop (fun m fr st => ∃ j : Nat, j ≤ e.kids.length ∧ m = e.kids.length - j ∧
      (∀ c : Nat, (((e.kids.drop j).all fun k => k.deep l) = true → c = cnt + e.nodes) → R (db ((e.kids.drop j).all fun k => k.deep l)) (σ.set ic (some (.cells [dn c])))) ∧
      fr = [.ea (.agg [iD e.op, iD e.w, iD e.n, .sl 4 (e.kids.map Ex.d)]) 0, dn dep, .ref ic 0, .ref iv 0, .any, .any, .any, .any, .any, .any, .any, .any, .any, .any, .any, .any, .any, .any, .any, .any, .any, .any, .any, .any, .any, dn e.kids.length, dn j, .any, .any, .any, .any, .any, .any, .any, .any, .any, .any, .any, .any, .any, .any] ∧ st = σ.set ic (some (.cells [dn (cnt + 1 + ((e.kids.take j).map Ex.nodes).sum)]))) e.kids.length _ ?_ ?_
    · exact Wk.mask [0, 1, 2, 3, 25, 26] ⟨0, by omega, rfl, h, rfl, by rw [List.take_zero]; rfl⟩
    rintro m fr st ⟨j, hj, hm, hR, rfl, rfl⟩
    have ht := take_le (l := e.kids) j
    rcases Nat.lt_or_ge j e.kids.length with hlt | hge
    · have hdd : decide ((j : Int) < (e.kids.length : Int)) = true := by simp; omega
      obtain ⟨k, hkk⟩ : ∃ k, e.kids.getD j (.mk 0 0 0 []) = k := ⟨_, rfl⟩
      have hmem : k ∈ e.kids := hkk ▸ kid_mem hlt
      have e1 := kid_at hlt hkk
      have hs := take_sum hlt
      have ht2 := take_le (l := e.kids) (j + 1)
      rw [hkk] at hs
      have w2 := wrapS j (by simp only [reachBytes] at hk; omega)
      have w3 := wrapS dep (by omega)
      rw [drop_getD (.mk 0 0 0 []) hlt, hkk, List.all_cons] at hR
      generalize hS : ((e.kids.take j).map Ex.nodes).sum = S at *
      have hc2 : (σ.set ic (some (.cells [dn (cnt + 1 + S)])))[ic]? = some (some (.cells [dn (cnt + 1 + S)])) := set_same hc
      have hv2 : (σ.set ic (some (.cells [dn (cnt + 1 + S)])))[iv]? = some (some (.cells [.fn (.func 84) [] [.ref ic 0, .ref iv 0]])) := by rw [set_other hne]; exact hv
      simp only [go_sem, hdd, Tryz.results84]
      refine aw_plan (.tk 11 0 <| .done) (by kernel_rfl) ?_
      simp only [go_sem, List.length_map, e1, w2, w3, live_of hc2, objK_of hc2, live_of hv2, objK_of hv2, Tryz.results84]
      rw [← Ex.d_eq k]
      refine ⟨⟨by omega, by omega⟩, ac' (ih k (hks k hmem) (dep + 1) (cnt + 1 + S) (by omega) (by omega) ic iv hne _ hc2 hv2 _ hG _ fun c hcc => ?_)⟩
      simp only [go_sem, w2, List.set_set, Tryz.results84]
      refine ⟨fun q => ⟨_, _, Weak.refl _ _ _ _, ?_⟩, fun q => Wk.mask [0, 1, 2, 3, 25, 26] ?_⟩
      · have q' : k.deep l = false := by simpa using q
        rw [q', Bool.false_and] at hR
        exact hR c (fun q => Bool.noConfusion q)
      · have q' : k.deep l = true := by simpa using q
        rw [q', Bool.true_and] at hR
        have := hcc q'
        exact ⟨e.kids.length - (j + 1), by omega, j + 1, hlt, rfl, hR, rfl, by rw [hs, this, Nat.add_assoc (cnt + 1)]⟩
    · have hdd : decide ((j : Int) < (e.kids.length : Int)) = false := by simp; omega
      simp only [go_sem, hdd, Tryz.results84]
      refine ⟨_, _, Weak.refl _ _ _ _, ?_⟩
      rw [List.drop_eq_nil_of_le hge] at hR
      rw [List.take_of_length_le hge]
      exact hR _ fun _ => by rw [hnd]; omega
theorem formed_prog (e : Ex) (hok : e.Ok) (hn : e.nodes ≤ 600) (σ : St) (G : Glob) (hG : G.g 0 = some masksD) (R : A → St → Prop) (h : R (db (e.deep 40)) σ) : AC Tryz.prog G 50 [.d e.d] σ R := by
  rw [Ex.d_eq]
  refine ac_enter' mixed Tryz.func50 rfl Tryz.ntmps50 (by simp only [go_sem]) fun hbd => ?_
  simp only [List.length_cons, List.length_nil, Nat.reduceAdd, Nat.reduceSub, List.replicate_succ, List.replicate_zero, List.cons_append, List.nil_append]
  simp only [go_sem, Tryz.results50]
  refine ac' (ac_ref 0 [iD e.op, iD e.w, iD e.n, .sl 4 (e.kids.map Ex.d)] rfl (by intro d hd; simp at hd; rcases hd with rfl | rfl | rfl | rfl <;> rfl) ?_)
  have hm : List.map (refA (σ.length + 0) [iD e.op, iD e.w, iD e.n, .sl 4 (e.kids.map Ex.d)]) [A.ref σ.length 0, A.d (.int .i64 1), A.ref (σ.length + 1) 0, A.ref (σ.length + 2) 0] = [.ea e.d 0, dn 1, .ref (σ.length + 1) 0, .ref (σ.length + 2) 0] := by
    have q1 : (σ.length + 1 == σ.length) = false := by simp
    have q2 : (σ.length + 2 == σ.length) = false := by simp
    simp [refA, Ex.d_eq, q1, q2]
  rw [hm]
  simp only [List.set]
  refine visit_ac 40 e hok 1 0 (by omega) (by omega) _ _ (by omega) _ (by simp) (by simp) _ hG _ fun c _ => ?_
  simp only [go_sem, Tryz.results50]
  exact ret_d hbd h
end Go.Proofs.YtmjlhbkgljcnoaaGreatDoor
end PartT4

section PartT5
/- The leaves of an expression, one by one. -/
set_option linter.unusedSimpArgs false
set_option linter.unusedVariables false
set_option maxRecDepth 100000
namespace Go.Proofs.YtmjlhbkgljcnoaaGreatDoor
open Go Go.Ab

namespace Ex
mutual
def lvs : Ex → List Ex
  | .mk o w n k => match k with
    | [] => [.mk o w n []]
    | e :: r => e.lvs ++ lvsL r
def lvsL : List Ex → List Ex
  | [] => []
  | e :: r => e.lvs ++ lvsL r
end
theorem lvsL_map : ∀ l : List Ex, lvsL l = l.flatMap lvs
  | [] => rfl
  | e :: r => by simp [lvsL, lvsL_map r]
theorem lvs_leaf {e : Ex} (h : e.kids = []) : e.lvs = [e] := by
  cases e with | mk o w n k => simp only [kids] at h; subst h; rfl
theorem lvs_node {e : Ex} (h : e.kids ≠ []) : e.lvs = e.kids.flatMap lvs := by
  cases e with
  | mk o w n k =>
    simp only [kids] at h ⊢
    cases k with
    | nil => exact (h rfl).elim
    | cons a r => simp [lvs, lvsL_map]
end Ex
theorem flat_take {l : List Ex} {j : Nat} (h : j < l.length) : (l.take (j + 1)).flatMap Ex.lvs = (l.take j).flatMap Ex.lvs ++ (l.getD j (.mk 0 0 0 [])).lvs := by
  rw [List.take_add_one, List.getElem?_eq_getElem h, List.getD_eq_getElem?_getD, List.getElem?_eq_getElem h, List.flatMap_append]
  simp
set_option maxHeartbeats 4000000 in
theorem leaves_ac (g : FuncId) (caps : List A) (F : Ex → St → St) (Pk : St → Prop) (G : Glob) (e : Ex) (hok : e.Ok) : ∀ (σ : St) (hP : Pk σ) (hF : ∀ n ∈ e.lvs, ∀ σ, Pk σ → Pk (F n σ))
    (hclo : ∀ n ∈ e.lvs, ∀ σ, Pk σ → ∀ R : A → St → Prop, (∀ r, R r (F n σ)) → AC Tryz.prog G g (.ea n.d 0 :: caps) σ R) (R : A → St → Prop) (h : ∀ r, R r (e.lvs.foldl (fun s n => F n s) σ)),
    AC Tryz.prog G 58 [.ea e.d 0, .fn (.func g) [] caps] σ R := by
  induction hok with
  | mk hk hks ih =>
  rename_i e
  intro σ hP hF hclo R h
  rw [Ex.d_eq]
  refine ac_enter' mixed Tryz.func58 rfl Tryz.ntmps58 (by simp only [go_sem]) fun hbd => ?_
  simp only [List.length_cons, List.length_nil, Nat.reduceAdd, Nat.reduceSub, List.replicate_succ, List.replicate_zero, List.cons_append, List.nil_append]
  by_cases hz : e.kids = []
  · have hl : e.kids.length = 0 := by rw [hz]; rfl
    have hlv := Ex.lvs_leaf hz
    rw [hlv] at hF hclo h
    simp only [go_sem, List.length_map, hl, show (((0 : Nat) : Int) == 0) = true from rfl, Tryz.results58]
    rw [← Ex.d_eq e]
    refine ac' (hclo e (by simp) σ hP _ fun r => ?_)
    rw [Ex.d_eq e]
    simp only [go_sem, List.length_map, hl, Tryz.results58]
    refine aw_loop (fun m fr st => fr = [.any, .any, .any, .any, .any, .any, .any, .any, .any, .any, .any, .any, .any, .any, .any, .any, .any, .any, di ((0 : Nat) : Int), di 0, .any, .any, .any, .any, .any, .any, .any, .any, .any, .any, .any] ∧ st = F e σ) 0 _ ?_ ?_
    · exact Wk.mask [18, 19] ⟨rfl, rfl⟩
    rintro m fr st ⟨rfl, rfl⟩
    simp only [go_sem, show decide ((0 : Int) < ((0 : Nat) : Int)) = false from rfl, Tryz.results58]
    exact ⟨_, _, Weak.refl _ _ _ _, h _⟩
  · have hl : (((e.kids.length : Nat) : Int) == 0) = false := by
      have : e.kids.length ≠ 0 := fun h => hz (List.eq_nil_of_length_eq_zero h)
      simp; omega
    have hlv := Ex.lvs_node hz
    rw [hlv] at hF hclo h
    simp only [go_sem, List.length_map, hl, Tryz.results58]
    refine aw_loop (fun m fr st => ∃ j : Nat, j ≤ e.kids.length ∧ m = e.kids.length - j ∧ Pk st ∧
      fr = [.ea (.agg [iD e.op, iD e.w, iD e.n, .sl 4 (e.kids.map Ex.d)]) 0, .fn (.func g) [] caps, .any, .any, .any, .any, .any, .any, .any, .any, .any, .any, .any, .any, .any, .any, .any, .any, dn e.kids.length, dn j, .any, .any, .any, .any, .any, .any, .any, .any, .any, .any, .any] ∧ st = ((e.kids.take j).flatMap Ex.lvs).foldl (fun s n => F n s) σ) e.kids.length _ ?_ ?_
    · exact Wk.mask [0, 1, 18, 19] ⟨0, by omega, rfl, hP, rfl, rfl⟩
    rintro m fr st ⟨j, hj, hm, hPs, rfl, hst⟩
    rcases Nat.lt_or_ge j e.kids.length with hlt | hge
    · have hdd : decide ((j : Int) < (e.kids.length : Int)) = true := by simp; omega
      obtain ⟨k, hkk⟩ : ∃ k, e.kids.getD j (.mk 0 0 0 []) = k := ⟨_, rfl⟩
      have hmem : k ∈ e.kids := hkk ▸ kid_mem hlt
      have e1 := kid_at hlt hkk
      have hft := flat_take hlt
      rw [hkk] at hft
      have hsub : ∀ n ∈ k.lvs, n ∈ e.kids.flatMap Ex.lvs := fun n hn => List.mem_flatMap.2 ⟨k, hmem, hn⟩
      have w2 := wrapS j (by simp only [reachBytes] at hk; omega)
      simp only [go_sem, List.length_map, hdd, e1, Tryz.results58]
      rw [← Ex.d_eq k]
      refine ⟨⟨by omega, by omega⟩, ac' (ih k hmem st hPs (fun n hn => hF n (hsub n hn)) (fun n hn => hclo n (hsub n hn)) _ fun r => ?_)⟩
      simp only [go_sem, w2, Tryz.results58]
      refine Wk.mask [0, 1, 18, 19] ⟨e.kids.length - (j + 1), by omega, j + 1, hlt, rfl, ?_, rfl, by rw [hft, List.foldl_append, ← hst]⟩
      have key : ∀ (l : List Ex) (s : St), (∀ n ∈ l, n ∈ e.kids.flatMap Ex.lvs) → Pk s → Pk (l.foldl (fun s n => F n s) s) := by
        intro l
        induction l with
        | nil => intro s _ h; exact h
        | cons a l ih2 => intro s hl h; exact ih2 _ (fun n hn => hl n (List.mem_cons_of_mem _ hn)) (hF a (hl a (List.mem_cons_self ..)) s h)
      exact key _ _ hsub hPs
    · have hdd : decide ((j : Int) < (e.kids.length : Int)) = false := by simp; omega
      simp only [go_sem, hdd, Tryz.results58]
      rw [List.take_of_length_le hge] at hst
      subst hst
      exact ⟨_, _, Weak.refl _ _ _ _, h _⟩
set_option maxHeartbeats 4000000 in
theorem validC_ac (n : Ex) (cells : List Cel) (pair : Bool) (hop : n.op = 1 ∨ n.op = 2 ∨ n.op = 3) (hn : 0 ≤ n.n) {ic ip ig : Nat} (σ : St) (hc : σ[ic]? = some (some (.cells [.d (celsD cells)]))) (hp : σ[ip]? = some (some (.cells [db pair]))) {x : A} (hg : σ[ig]? = some (some (.cells [x]))) (G : Glob) (R : A → St → Prop) (h : ∀ r, R r (if n.overN cells pair then σ else σ.set ig (some (.cells [db false])))) :
    AC Tryz.prog G 59 [.ea n.d 0, .ref ic 0, .ref ip 0, .ref ig 0] σ R := by
  have hT : n.overN cells pair = true → ∀ r, R r σ := fun q r => by have := h r; rw [if_pos q] at this; exact this
  have hF : n.overN cells pair = false → ∀ r, R r (σ.set ig (some (.cells [db false]))) := fun q r => by have := h r; rw [if_neg (by rw [q]; exact Bool.false_ne_true)] at this; exact this
  rw [Ex.d_eq]
  by_cases o1 : n.op = 1
  · have b1 : (n.op != 1) = false := by simp [o1]
    have ho : n.overN cells pair = true := by simp [Ex.overN, o1]
    refine ac_enter' mixed Tryz.func59 rfl Tryz.ntmps59 (by simp only [go_sem]) fun hbd => ?_
    simp only [List.length_cons, List.length_nil, Nat.reduceAdd, Nat.reduceSub, List.replicate_succ, List.replicate_zero, List.cons_append, List.nil_append]
    simp only [go_sem, Tryz.results59]
    refine aw_plan (.tk 40 0 <| .done) (by kernel_rfl) ?_
    simp only [go_sem, celsD, live_of hc, objK_of hc, live_of hp, objK_of hp, b1, List.length_map, Tryz.results59]
    exact ⟨_, _, Weak.refl _ _ _ _, hT ho _⟩
  have b1 : (n.op != 1) = true := by simp [o1]
  have hop' : n.op = 2 ∨ n.op = 3 := by omega
  have hb : (n.op == 3 || n.op == 2) = true := by rcases hop' with o | o <;> simp [o]
  by_cases c1 : (cells.length : Int) ≤ n.n
  · have d1 : decide ((cells.length : Int) ≤ n.n) = true := by simp [c1]
    have ho : n.overN cells pair = false := by simp only [Ex.overN, hb, d1, Bool.true_or, Bool.and_true, Bool.not_true, Bool.and_false]
    refine ac_enter' mixed Tryz.func59 rfl Tryz.ntmps59 (by simp only [go_sem]) fun hbd => ?_
    simp only [List.length_cons, List.length_nil, Nat.reduceAdd, Nat.reduceSub, List.replicate_succ, List.replicate_zero, List.cons_append, List.nil_append]
    simp only [go_sem, Tryz.results59]
    refine aw_plan (.tk 40 0 <| .done) (by kernel_rfl) ?_
    simp only [go_sem, celsD, live_of hc, objK_of hc, live_of hp, objK_of hp, live_of hg, objK_of hg, b1, d1, List.length_map, Tryz.results59]
    exact ⟨_, _, Weak.refl _ _ _ _, hF ho _⟩
  have d1 : decide ((cells.length : Int) ≤ n.n) = false := by simp [c1]
  have e1 := celD_at (l := cells) (j := n.n.toNat) (by omega)
  simp only [celD] at e1
  by_cases c2 : (cells.getD n.n.toNat cel0).w = n.w
  · have d2 : ((cells.getD n.n.toNat cel0).w != n.w) = false := by rw [c2]; exact bne_self_eq_false _
    have ho : n.overN cells pair = !(n.op == 3 && !pair) := by simp only [Ex.overN, hb, d1, d2, Bool.or_false, Bool.and_false, Bool.not_false, Bool.and_true]
    by_cases c3 : n.op = 3
    · have d3 : (n.op == 3) = true := by simp [c3]
      cases pair
      · refine ac_enter' mixed Tryz.func59 rfl Tryz.ntmps59 (by simp only [go_sem]) fun hbd => ?_
        simp only [List.length_cons, List.length_nil, Nat.reduceAdd, Nat.reduceSub, List.replicate_succ, List.replicate_zero, List.cons_append, List.nil_append]
        simp only [go_sem, Tryz.results59]
        refine aw_plan (.tk 40 0 <| .done) (by kernel_rfl) ?_
        simp only [go_sem, celsD, live_of hc, objK_of hc, live_of hp, objK_of hp, live_of hg, objK_of hg, b1, d1, d2, d3, e1, List.length_map, Bool.not_false, Tryz.results59]
        exact ⟨⟨by omega, by omega⟩, _, _, Weak.refl _ _ _ _, hF (by rw [ho, d3]; rfl) _⟩
      · refine ac_enter' mixed Tryz.func59 rfl Tryz.ntmps59 (by simp only [go_sem]) fun hbd => ?_
        simp only [List.length_cons, List.length_nil, Nat.reduceAdd, Nat.reduceSub, List.replicate_succ, List.replicate_zero, List.cons_append, List.nil_append]
        simp only [go_sem, Tryz.results59]
        refine aw_plan (.tk 40 0 <| .done) (by kernel_rfl) ?_
        simp only [go_sem, celsD, live_of hc, objK_of hc, live_of hp, objK_of hp, live_of hg, objK_of hg, b1, d1, d2, d3, e1, List.length_map, Bool.not_true, Tryz.results59]
        exact ⟨⟨by omega, by omega⟩, _, _, Weak.refl _ _ _ _, hT (by rw [ho, d3]; rfl) _⟩
    · have d3 : (n.op == 3) = false := by simp [c3]
      refine ac_enter' mixed Tryz.func59 rfl Tryz.ntmps59 (by simp only [go_sem]) fun hbd => ?_
      simp only [List.length_cons, List.length_nil, Nat.reduceAdd, Nat.reduceSub, List.replicate_succ, List.replicate_zero, List.cons_append, List.nil_append]
      simp only [go_sem, Tryz.results59]
      refine aw_plan (.tk 40 0 <| .done) (by kernel_rfl) ?_
      simp only [go_sem, celsD, live_of hc, objK_of hc, live_of hp, objK_of hp, live_of hg, objK_of hg, b1, d1, d2, d3, e1, List.length_map, Tryz.results59]
      exact ⟨⟨by omega, by omega⟩, _, _, Weak.refl _ _ _ _, hT (by rw [ho, d3]; rfl) _⟩
  · have d2 : ((cells.getD n.n.toNat cel0).w != n.w) = true := bne_iff_ne.2 c2
    have ho : n.overN cells pair = false := by simp only [Ex.overN, hb, d2, Bool.or_true, Bool.and_true, Bool.not_true, Bool.and_false]
    refine ac_enter' mixed Tryz.func59 rfl Tryz.ntmps59 (by simp only [go_sem]) fun hbd => ?_
    simp only [List.length_cons, List.length_nil, Nat.reduceAdd, Nat.reduceSub, List.replicate_succ, List.replicate_zero, List.cons_append, List.nil_append]
    simp only [go_sem, Tryz.results59]
    refine aw_plan (.tk 40 0 <| .done) (by kernel_rfl) ?_
    simp only [go_sem, celsD, live_of hc, objK_of hc, live_of hp, objK_of hp, live_of hg, objK_of hg, b1, d1, d2, e1, List.length_map, Tryz.results59]
    exact ⟨⟨by omega, by omega⟩, _, _, Weak.refl _ _ _ _, hF ho _⟩
theorem over_lvs (cells : List Cel) (p : Bool) (l : Nat) : ∀ e : Ex, e.deep l = true → e.over cells p = e.lvs.all fun n => n.overN cells p := by
  induction l with
  | zero => intro e h; simp [Ex.deep] at h
  | succ l ih =>
    intro e hd
    rw [Ex.over_eq]
    by_cases hz : e.kids = []
    · rw [Ex.lvs_leaf hz, hz]; simp
    · have hf : e.fits = true := by rw [deep_eq, Bool.and_eq_true] at hd; exact hd.1
      have hop : e.op ≠ 3 ∧ e.op ≠ 2 := by
        have f1 := ((fits_iff e).1 hf).1.1
        have : e.kids.length ≠ 0 := fun h => hz (List.eq_nil_of_length_eq_zero h)
        have := (arity_vals e.op).1
        constructor <;> intro o <;> omega
      have h3 : (e.op == 3) = false := by simp [hop.1]
      have h2 : (e.op == 2) = false := by simp [hop.2]
      have ho : e.overN cells p = true := by simp only [Ex.overN, h3, h2]; rfl
      rw [ho, Bool.true_and, Ex.lvs_node hz, List.all_flatMap, Bool.eq_iff_iff, List.all_eq_true, List.all_eq_true]
      constructor
      · intro h k hk; rw [← ih k (deep_kid hd hk)]; exact h k hk
      · intro h k hk; rw [ih k (deep_kid hd hk)]; exact h k hk
theorem lvs_op (l : Nat) : ∀ e : Ex, e.deep l = true → ∀ n ∈ e.lvs, (n.op = 1 ∨ n.op = 2 ∨ n.op = 3) ∧ n.fits = true := by
  induction l with
  | zero => intro e h; simp [Ex.deep] at h
  | succ l ih =>
    intro e hd n hn
    have hf : e.fits = true := by rw [deep_eq, Bool.and_eq_true] at hd; exact hd.1
    by_cases hz : e.kids = []
    · rw [Ex.lvs_leaf hz] at hn
      obtain rfl : n = e := by simpa using hn
      have f1 := ((fits_iff n).1 hf).1.1
      rw [hz] at f1
      have := (arity_vals n.op).1
      exact ⟨this.1 f1, hf⟩
    · rw [Ex.lvs_node hz] at hn
      obtain ⟨k, hk, hn⟩ := List.mem_flatMap.1 hn
      exact ih k (deep_kid hd hk) n hn
theorem good_fold (cells : List Cel) (p : Bool) {ig : Nat} : ∀ (l : List Ex) (s : St) (b : Bool), s[ig]? = some (some (.cells [db b])) →
    l.foldl (fun s n => if n.overN cells p then s else s.set ig (some (.cells [db false]))) s = s.set ig (some (.cells [db (b && l.all fun n => n.overN cells p)]))
  | [], s, b, h => by
    rw [List.foldl_nil, List.all_nil, Bool.and_true]
    apply List.ext_getElem?
    intro i
    rw [List.getElem?_set]
    by_cases e : ig = i
    · subst e; rw [if_pos rfl, if_pos (lt_of_some h)]; exact h
    · rw [if_neg e]
  | n :: l, s, b, h => by
    rw [List.foldl_cons, List.all_cons]
    cases ho : n.overN cells p
    · rw [if_neg Bool.false_ne_true, good_fold cells p l _ false (set_same h), List.set_set]; simp
    · rw [if_pos rfl, good_fold cells p l s b h]; simp
set_option maxHeartbeats 4000000 in
theorem valid_ac (e : Ex) (hok : e.Ok) (hn : e.nodes ≤ 600) (cells : List Cel) (pair : Bool) (σ : St) (G : Glob) (hG : G.g 0 = some masksD) (R : A → St → Prop) (h : R (db (e.deep 40 && e.over cells pair)) σ) : AC Tryz.prog G 24 [.d e.d, .d (celsD cells), db pair] σ R := by
  rw [Ex.d_eq]
  refine ac_enter' mixed Tryz.func24 rfl Tryz.ntmps24 (by simp only [go_sem]) fun hbd => ?_
  simp only [List.length_cons, List.length_nil, Nat.reduceAdd, Nat.reduceSub, List.replicate_succ, List.replicate_zero, List.cons_append, List.nil_append]
  simp only [go_sem, Tryz.results24]
  rw [← Ex.d_eq e]
  refine ac' (formed_prog e hok hn _ _ hG _ ?_)
  rw [Ex.d_eq e]
  simp only [go_sem, celsD, Tryz.results24]
  refine ⟨fun q => ret_d hbd ?_, fun q => ?_⟩
  · have q' : e.deep 40 = false := by simpa using q
    rw [q', Bool.false_and] at h; exact h
  have hd : e.deep 40 = true := by simpa using q
  have hl := lvs_op 40 e hd
  rw [hd, Bool.true_and, over_lvs cells pair 40 e hd] at h
  refine ac' (ac_ref 0 [iD e.op, iD e.w, iD e.n, .sl 4 (e.kids.map Ex.d)] rfl (by intro d hd; simp at hd; rcases hd with rfl | rfl | rfl | rfl <;> rfl) ?_)
  have hm : List.map (refA (σ.length + 0) [iD e.op, iD e.w, iD e.n, .sl 4 (e.kids.map Ex.d)]) [A.ref σ.length 0, A.fn (.func 59) [] [.ref (σ.length + 1) 0, .ref (σ.length + 2) 0, .ref (σ.length + 3) 0]] = [.ea e.d 0, .fn (.func 59) [] [.ref (σ.length + 1) 0, .ref (σ.length + 2) 0, .ref (σ.length + 3) 0]] := by
    simp [refA, Ex.d_eq]
  rw [hm]
  simp only [List.set]
  refine leaves_ac 59 _ (fun n s => if n.overN cells pair then s else s.set (σ.length + 3) (some (.cells [db false]))) (fun s => s[σ.length + 1]? = some (some (.cells [.d (celsD cells)])) ∧ s[σ.length + 2]? = some (some (.cells [db pair])) ∧ ∃ b, s[σ.length + 3]? = some (some (.cells [db b]))) G e hok _ ⟨by simp [celsD], by simp, true, by simp⟩ ?_ ?_ _ fun r => ?_
  · rintro n _ s ⟨s1, s2, b, s3⟩
    split
    · exact ⟨s1, s2, b, s3⟩
    · exact ⟨by rw [set_other (by omega)]; exact s1, by rw [set_other (by omega)]; exact s2, false, set_same s3⟩
  · rintro n hn s ⟨s1, s2, b, s3⟩ R hR
    exact validC_ac n cells pair (hl n hn).1 (fits_n (hl n hn).2) s s1 s2 s3 G R hR
  · rw [good_fold cells pair e.lvs _ true (by simp), Bool.true_and]
    simp only [go_sem, List.set_cons_succ, List.set_cons_zero, Tryz.results24]
    exact ret_d hbd h
end Go.Proofs.YtmjlhbkgljcnoaaGreatDoor
end PartT5

section PartT6
/- The program's Support. -/
set_option linter.unusedSimpArgs false
set_option linter.unusedVariables false
set_option maxRecDepth 100000
namespace Go.Proofs.YtmjlhbkgljcnoaaGreatDoor
open Go Go.Ab
theorem getD_set {α : Type} {l : List α} {i j : Nat} {a d : α} : (l.set i a).getD j d = if i = j ∧ j < l.length then a else l.getD j d := by
  simp only [List.getD_eq_getElem?_getD, List.getElem?_set]
  by_cases h : i = j
  · subst h
    by_cases h2 : i < l.length
    · simp [h2]
    · simp [h2, List.getElem?_eq_none (Nat.le_of_not_lt h2)]
  · simp [h]

def markO (i k : Nat) (s : St) : St := match s[i]? with
  | some (some (.cells cs)) => s.set i (some (.cells (cs.set k (db true))))
  | _ => s
def markF (io inw : Nat) (n : Ex) (s : St) : St := if n.op = 3 then markO io n.n.toNat s else if n.op = 2 then markO inw n.n.toNat s else s
theorem markO_of {i k : Nat} {s : St} {cs : List A} (h : s[i]? = some (some (.cells cs))) : markO i k s = s.set i (some (.cells (cs.set k (db true)))) := by simp only [markO, h]
theorem splice_set {l : List A} {k : Nat} (h : k < l.length) (x : A) : l.take (k * 1) ++ x :: l.drop (k * 1 + 1) = l.set k x := by
  rw [Nat.mul_one, List.set_eq_take_append_cons_drop, if_pos h]
theorem markC_ac (n : Ex) (hop : n.op = 1 ∨ n.op = 2 ∨ n.op = 3) (hn : n.op ≠ 1 → 0 ≤ n.n ∧ n.n < 32) {io inw : Nat} (σ : St) (co cn : List A) (ho : σ[io]? = some (some (.cells co))) (hw : σ[inw]? = some (some (.cells cn))) (h1 : co.length = 32) (h2 : cn.length = 32)
    (G : Glob) (R : A → St → Prop) (h : ∀ r, R r (markF io inw n σ)) : AC Tryz.prog G 60 [.ea n.d 0, .ref io 0, .ref inw 0] σ R := by
  rw [Ex.d_eq]
  refine ac_enter' mixed Tryz.func60 rfl Tryz.ntmps60 (by simp only [go_sem]) fun hbd => ?_
  simp only [List.length_cons, List.length_nil, Nat.reduceAdd, Nat.reduceSub, List.replicate_succ, List.replicate_zero, List.cons_append, List.nil_append]
  rcases hop with o | o | o
  · have b3 : (n.op == 3) = false := by simp [o]
    have b2 : (n.op == 2) = false := by simp [o]
    simp only [go_sem, b3, b2, Tryz.results60]
    have := h (.tup [])
    rw [markF, if_neg (by omega), if_neg (by omega)] at this
    exact ⟨_, _, Weak.refl _ _ _ _, this⟩
  · have b3 : (n.op == 3) = false := by simp [o]
    have b2 : (n.op == 2) = true := by simp [o]
    simp only [go_sem, b3, b2, live_of hw, objK_of hw, Tryz.results60]
    have hb := hn (by omega)
    have hl : n.n.toNat < cn.length := by omega
    rw [splice_set hl]
    have := h (.tup [])
    rw [markF, if_neg (by omega), if_pos (by omega), markO_of hw] at this
    exact ⟨⟨by omega, by omega⟩, by omega, _, _, Weak.refl _ _ _ _, this⟩
  · have b3 : (n.op == 3) = true := by simp [o]
    simp only [go_sem, b3, live_of ho, objK_of ho, Tryz.results60]
    have hb := hn (by omega)
    have hl : n.n.toNat < co.length := by omega
    rw [splice_set hl]
    have := h (.tup [])
    rw [markF, if_pos (by omega), markO_of ho] at this
    exact ⟨⟨by omega, by omega⟩, by omega, _, _, Weak.refl _ _ _ _, this⟩

theorem lies_map {α : Type} (f : α → D) (hf : ∀ x, (f x).cells = [f x] ∧ (f x).one = true) (l : List α) : Lies (l.map fun x => A.d (f x)) 1 0 (l.map f) := by
  have e : flat (l.map f) = l.map fun x => A.d (f x) := by
    induction l with
    | nil => rfl
    | cons x l ih => rw [List.map_cons, flat_cons, ih, (hf x).1]; rfl
  rw [← e]
  refine lies_of fun x hx => ?_
  obtain ⟨y, _, rfl⟩ := List.mem_map.1 hx
  rw [(hf y).1]
  exact ⟨rfl, fun z hz => by simp at hz; rw [hz]; exact (hf y).2⟩
theorem lies_ints (l : List Int) : Lies (l.map fun x => A.d (iD x)) 1 0 (l.map iD) := lies_map iD (fun _ => ⟨rfl, rfl⟩) l
def ints (l : List Int) : Option Ob := some (.cells (l.map fun x => A.d (iD x)))
/-- The places of the true ones among the first j. -/
def idxL (bs : List Bool) (j : Nat) : List Int := ((List.range j).filter fun i => bs.getD i false).map Int.ofNat
theorem idxL_succ (bs : List Bool) (j : Nat) : idxL bs (j + 1) = idxL bs j ++ if bs.getD j false = true then [(j : Int)] else [] := by
  simp only [idxL, List.range_succ, List.filter_append, List.map_append]
  congr 1
  cases h : bs.getD j false
  · rw [List.filter_cons_of_neg (by rw [h]; simp)]; rfl
  · simp only [List.filter, h]; rfl
theorem idxL_len (bs : List Bool) (j : Nat) : (idxL bs j).length ≤ j := by
  simp only [idxL, List.length_map]
  exact Nat.le_trans (List.length_filter_le _ _) (by simp)
theorem toDs_map : ∀ l : List D, toDs (l.map .d) = some l
  | [] => rfl
  | x :: l => by simp only [List.map_cons, toDs, toDs_map l]; rfl
set_option maxHeartbeats 4000000 in
theorem members_ac (bs : List Bool) (hb : bs.length = 32) (σ : St) (G : Glob) (R : A → St → Prop) (h : R (.d (isD (idxL bs 32))) σ) : AC Tryz.prog G 61 [.d (.agg (bs.map D.bool))] σ R := by
  refine ac_enter mixed Tryz.func61 rfl Tryz.ntmps61 (by simp only [go_sem]) fun hbd => ?_
  simp only [List.length_cons, List.length_nil, Nat.reduceAdd, Nat.reduceSub, List.replicate_succ, List.replicate_zero, List.cons_append, List.nil_append]
  have htk : List.take 32 (List.map A.d (List.map D.bool bs)) = List.map A.d (List.map D.bool bs) := List.take_of_length_le (by simp [hb])
  simp only [go_sem, htk, toDs_map]
  refine ⟨by simp [hb], ?_⟩
  refine aw_loop (fun m fr st => ∃ j : Nat, j ≤ 32 ∧ m = 32 - j ∧ fr = [.any, .any, .any, .rs σ.length 1 0 (idxL bs j).length (some 3), .any, .any, .d (.agg (bs.map D.bool)), dn j, .any, .any, .any, .any, .any, .any, .any, .any, .any, .any] ∧ st = σ ++ [ints (idxL bs j)]) 32 _ ?_ ?_
  · exact ⟨_, _, (Weak.mask [3, 6, 7]).trans ((Weak.cut (Nat.le_refl _) hbd rfl).trans (Weak.empty 3 1 (some 3) rfl)), 0, by omega, rfl, by simp [maskN, idxL], by simp [ints, idxL]⟩
  rintro m fr st ⟨j, hj, hm, rfl, rfl⟩
  rcases Nat.lt_or_ge j 32 with hlt | hge
  · have hd : decide ((j : Int) < 32) = true := by simp; omega
    have e1 : List.getD (List.map D.bool bs) j default = .bool (bs.getD j false) := getD_mapD (by omega)
    have w2 := wrapS j (by omega)
    have hs := idxL_succ bs j
    have hln := idxL_len bs j
    cases hq : bs.getD j false with
    | true =>
      rw [hq] at e1 hs
      simp only [if_true] at hs
      simp only [go_sem, ints, hd, Nat.mul_one, e1, w2, List.length_map, Tryz.results61]
      refine ⟨⟨by omega, by omega, by omega⟩, ⟨by simp only [maxLen]; omega, by omega⟩, Wk.keep [3, 6, 7] [2] (by decide) (Nat.le_refl _) hbd ⟨32 - (j + 1), by omega, j + 1, hlt, rfl, ?_, ?_⟩⟩
      · rw [hs]; simp only [go_sem, List.length_append, List.length_cons, List.length_nil]
      · rw [hs]; simp only [go_sem, ints, List.map_append, List.map_cons, List.map_nil]
    | false =>
      rw [hq] at e1 hs
      simp only [Bool.false_eq_true, if_false, List.append_nil] at hs
      simp only [go_sem, hd, Nat.mul_one, e1, w2, List.length_map, Tryz.results61]
      refine ⟨⟨by omega, by omega, by omega⟩, Wk.mask [3, 6, 7] ⟨32 - (j + 1), by omega, j + 1, hlt, rfl, by rw [hs]; rfl, by rw [hs]⟩⟩
  · have hd : decide ((j : Int) < 32) = false := by simp; omega
    simp only [go_sem, hd, Tryz.results61]
    obtain rfl : j = 32 := by omega
    refine ret_frz 0 1 0 ((idxL bs 32).map iD) rfl (lies_ints _) ?_
    simp only [go_sem, List.length_map]
    exact ret_d hbd h

def markB (o : Int) (l : List Ex) (bs : List Bool) : List Bool := l.foldl (fun bs n => if n.op = o then bs.set n.n.toNat true else bs) bs
theorem markB_len (o : Int) : ∀ (l : List Ex) (bs : List Bool), (markB o l bs).length = bs.length
  | [], bs => rfl
  | n :: l, bs => by
    have := markB_len o l (if n.op = o then bs.set n.n.toNat true else bs)
    simp only [markB, List.foldl_cons] at this ⊢
    rw [this]; split <;> simp
theorem markB_at (o : Int) (i : Nat) : ∀ (l : List Ex) (bs : List Bool), i < bs.length → (markB o l bs).getD i false = (bs.getD i false || l.any fun n => n.op == o && n.n.toNat == i)
  | [], bs, hi => by simp [markB]
  | n :: l, bs, hi => by
    have := markB_at o i l (if n.op = o then bs.set n.n.toNat true else bs) (by split <;> simpa using hi)
    simp only [markB, List.foldl_cons, List.any_cons] at this ⊢
    rw [this]
    by_cases ho : n.op = o
    · rw [if_pos ho, getD_set]
      by_cases hn : n.n.toNat = i
      · rw [if_pos ⟨hn, hi⟩]; simp [ho, hn]
      · have hb : (n.n.toNat == i) = false := by simp [hn]
        rw [if_neg (fun h => hn h.1), hb, Bool.and_false, Bool.false_or]
    · rw [if_neg ho]
      have : (n.op == o) = false := by simp [ho]
      rw [this]; simp
/-- The cells that occur in an expression under an operator. -/
def supB (o : Int) (e : Ex) : List Bool := markB o e.lvs (List.replicate 32 false)
theorem supB_len (o : Int) (e : Ex) : (supB o e).length = 32 := by simp [supB, markB_len]
theorem supB_at (o : Int) (e : Ex) {i : Nat} (hi : i < 32) : (supB o e).getD i false = e.lvs.any fun n => n.op == o && n.n.toNat == i := by
  rw [supB, markB_at o i _ _ (by simpa using hi)]
  rw [List.getD_eq_getElem?_getD, List.getElem?_replicate, if_pos hi]; simp
def bCells (bs : List Bool) : Option Ob := some (.cells (bs.map fun b => .d (.bool b)))
theorem bset (bs : List Bool) (k : Nat) : (bs.map fun b => A.d (.bool b)).set k (db true) = (bs.set k true).map fun b => A.d (.bool b) := by
  rw [List.map_set]
theorem mark_fold {io inw : Nat} (hne : io ≠ inw) : ∀ (l : List Ex) (s : St) (bo bn : List Bool), s[io]? = some (bCells bo) → s[inw]? = some (bCells bn) →
    l.foldl (fun s n => markF io inw n s) s = (s.set io (bCells (markB 3 l bo))).set inw (bCells (markB 2 l bn))
  | [], s, bo, bn, h1, h2 => by
    simp only [List.foldl_nil, markB]
    apply List.ext_getElem?
    intro i
    rw [List.getElem?_set, List.getElem?_set]
    by_cases e1 : inw = i
    · subst e1; rw [if_pos rfl, List.length_set, if_pos (lt_of_some h2)]; exact h2
    · rw [if_neg e1]
      by_cases e2 : io = i
      · subst e2; rw [if_pos rfl, if_pos (lt_of_some h1)]; exact h1
      · rw [if_neg e2]
  | n :: l, s, bo, bn, h1, h2 => by
    simp only [List.foldl_cons, markB]
    by_cases o3 : n.op = 3
    · have e : markF io inw n s = s.set io (bCells (bo.set n.n.toNat true)) := by
        rw [markF, if_pos o3, markO_of h1, bset]; rfl
      rw [e, if_pos o3, if_neg (by omega)]
      rw [mark_fold hne l _ (bo.set n.n.toNat true) bn (set_same h1) (by rw [set_other hne]; exact h2), List.set_set]; rfl
    · by_cases o2 : n.op = 2
      · have e : markF io inw n s = s.set inw (bCells (bn.set n.n.toNat true)) := by
          rw [markF, if_neg o3, if_pos o2, markO_of h2, bset]; rfl
        rw [e, if_neg o3, if_pos o2]
        rw [mark_fold hne l _ bo (bn.set n.n.toNat true) (by rw [set_other (Ne.symm hne)]; exact h1) (set_same h2)]
        rw [List.set_comm _ _ (Ne.symm hne), List.set_set]; rfl
      · have e : markF io inw n s = s := by rw [markF, if_neg o3, if_neg o2]
        rw [e, if_neg o3, if_neg o2]
        exact mark_fold hne l s bo bn h1 h2
set_option maxHeartbeats 4000000 in
theorem support_ac (e : Ex) (hok : e.Ok) (hn : e.nodes ≤ 600) (hd : e.deep 40 = true) (σ : St) (G : Glob) (hG : G.g 0 = some masksD) (R : A → St → Prop) (h : R (.tup [.d (isD (idxL (supB 3 e) 32)), .d (isD (idxL (supB 2 e) 32))]) σ) : AC Tryz.prog G 25 [.d e.d] σ R := by
  have hl := lvs_op 40 e hd
  rw [Ex.d_eq]
  refine ac_enter' mixed Tryz.func25 rfl Tryz.ntmps25 (by simp only [go_sem]) fun hbd => ?_
  simp only [List.length_cons, List.length_nil, Nat.reduceAdd, Nat.reduceSub, List.replicate_succ, List.replicate_zero, List.cons_append, List.nil_append]
  simp only [go_sem, Tryz.results25]
  rw [← Ex.d_eq e]
  refine ac' (formed_prog e hok hn _ _ hG _ ?_)
  rw [Ex.d_eq e, hd]
  simp only [go_sem, Tryz.results25]
  refine ac' (ac_ref 0 [iD e.op, iD e.w, iD e.n, .sl 4 (e.kids.map Ex.d)] rfl (by intro d hd; simp at hd; rcases hd with rfl | rfl | rfl | rfl <;> rfl) ?_)
  have hm : List.map (refA (σ.length + 0) [iD e.op, iD e.w, iD e.n, .sl 4 (e.kids.map Ex.d)]) [A.ref σ.length 0, A.fn (.func 60) [] [.ref (σ.length + 1) 0, .ref (σ.length + 2) 0]] = [.ea e.d 0, .fn (.func 60) [] [.ref (σ.length + 1) 0, .ref (σ.length + 2) 0]] := by
    simp [refA, Ex.d_eq]
  rw [hm]
  simp only [List.set]
  refine leaves_ac 60 _ (markF (σ.length + 1) (σ.length + 2)) (fun s => ∃ bo bn : List Bool, s[σ.length + 1]? = some (bCells bo) ∧ s[σ.length + 2]? = some (bCells bn) ∧ bo.length = 32 ∧ bn.length = 32) G e hok _
    ⟨List.replicate 32 false, List.replicate 32 false, by simp [bCells, List.replicate], by simp [bCells, List.replicate], by simp, by simp⟩ ?_ ?_ _ fun r => ?_
  · rintro n hn s ⟨bo, bn, h1, h2, h3, h4⟩
    refine ⟨if n.op = 3 then bo.set n.n.toNat true else bo, if n.op = 3 then bn else if n.op = 2 then bn.set n.n.toNat true else bn, ?_⟩
    unfold markF
    by_cases o3 : n.op = 3
    · rw [if_pos o3, if_pos o3, if_pos o3, markO_of h1, bset]
      exact ⟨set_same h1, by rw [set_other (by omega)]; exact h2, by simpa using h3, h4⟩
    · rw [if_neg o3, if_neg o3, if_neg o3]
      by_cases o2 : n.op = 2
      · rw [if_pos o2, if_pos o2, markO_of h2, bset]
        exact ⟨by rw [set_other (by omega)]; exact h1, set_same h2, h3, by simpa using h4⟩
      · rw [if_neg o2, if_neg o2]
        exact ⟨h1, h2, h3, h4⟩
  · rintro n hn s ⟨bo, bn, h1, h2, h3, h4⟩ R hR
    obtain ⟨q2, q3⟩ := hl n hn
    refine markC_ac n q2 (fun hne => ?_) s _ _ h1 h2 (by simpa using h3) (by simpa using h4) G R hR
    have f := ((fits_iff n).1 q3).2
    rw [if_neg hne, if_pos (by omega)] at f
    exact f
  · have hfold := mark_fold (io := σ.length + 1) (inw := σ.length + 2) (by omega) e.lvs (σ ++ [none, bCells (List.replicate 32 false), bCells (List.replicate 32 false)]) (List.replicate 32 false) (List.replicate 32 false) (by simp) (by simp)
    have e0 : (some (Ob.cells [A.d (D.bool false), A.d (D.bool false), A.d (D.bool false), A.d (D.bool false), A.d (D.bool false), A.d (D.bool false), A.d (D.bool false), A.d (D.bool false), A.d (D.bool false), A.d (D.bool false), A.d (D.bool false), A.d (D.bool false), A.d (D.bool false), A.d (D.bool false), A.d (D.bool false), A.d (D.bool false),
      A.d (D.bool false), A.d (D.bool false), A.d (D.bool false), A.d (D.bool false), A.d (D.bool false), A.d (D.bool false), A.d (D.bool false), A.d (D.bool false), A.d (D.bool false), A.d (D.bool false), A.d (D.bool false), A.d (D.bool false), A.d (D.bool false), A.d (D.bool false), A.d (D.bool false), A.d (D.bool false)])) = bCells (List.replicate 32 false) := rfl
    rw [e0, hfold]
    rw [show markB 3 e.lvs (List.replicate 32 false) = supB 3 e from rfl, show markB 2 e.lvs (List.replicate 32 false) = supB 2 e from rfl]
    have l3 := supB_len 3 e
    have l2 := supB_len 2 e
    generalize supB 3 e = bo at *
    generalize supB 2 e = bn at *
    have t3 : (bo.map fun b => A.d (.bool b)).take 32 = (bo.map D.bool).map A.d := by rw [List.take_of_length_le (by simp [l3]), List.map_map]; rfl
    have t2 : (bn.map fun b => A.d (.bool b)).take 32 = (bn.map D.bool).map A.d := by rw [List.take_of_length_le (by simp [l2]), List.map_map]; rfl
    simp only [go_sem, List.set_cons_succ, List.set_cons_zero, bCells]
    refine aw_plan (.take 0 <| .pure 1 <| .take 2 <| .pure 3 <| .tk 2 4 <| .done) (by kernel_rfl) ?_
    simp only [go_sem, t3, t2, toDs_map, Tryz.results25]
    refine ⟨by simp [l3], exP (.d (isD (idxL bo 32))) ⟨fun σ' => ac' (members_ac bo l3 _ _ _ ⟨rfl, rfl⟩), ?_⟩⟩
    simp only [go_sem, t3, t2, toDs_map, Tryz.results25]
    refine ⟨by simp [l2], exP (.d (isD (idxL bn 32))) ⟨fun σ' => ac' (members_ac bn l2 _ _ _ ⟨rfl, rfl⟩), ?_⟩⟩
    simp only [go_sem, Tryz.results25]
    exact ret_bd hbd rfl h
end Go.Proofs.YtmjlhbkgljcnoaaGreatDoor
end PartT6

section PartT7
/- The program's Eval. -/
set_option linter.unusedSimpArgs false
set_option linter.unusedVariables false
set_option maxRecDepth 100000
namespace Go.Proofs.YtmjlhbkgljcnoaaGreatDoor
open Go Go.Ab
abbrev dL (r : List Int) : A := .d (isD r)
section
variable {old now : List Int}
theorem list2 {α : Type} {l : List α} (h : l.length = 2) : ∃ a b, l = [a, b] := by
  match l, h with
  | [a, b], _ => exact ⟨a, b, rfl⟩
theorem list3 {α : Type} {l : List α} (h : l.length = 3) : ∃ a b c, l = [a, b, c] := by
  match l, h with
  | [a, b, c], _ => exact ⟨a, b, c, rfl⟩
theorem evN_lt (l : Nat) : ∀ (e : Ex), e.deep l = true → evN old now e < 2 ^ e.w.toNat := by
  induction l with
  | zero => intro e hd; simp [Ex.deep] at hd
  | succ l ih =>
    intro e hd
    have hkd : ∀ k ∈ e.kids, evN old now k < 2 ^ k.w.toNat := fun k hk => ih k (deep_kid hd hk)
    have hf : e.fits = true := by simp only [Ex.deep, Bool.and_eq_true] at hd; exact hd.1
    simp only [Ex.fits, Bool.and_eq_true, decide_eq_true_eq] at hf
    obtain ⟨⟨ha, w1, w8⟩, hf⟩ := hf
    have hL : e.kids.length = (Ex.arity e.op).toNat := by omega
    have hp : 0 < 2 ^ e.w.toNat := Nat.pow_pos (by omega)
    have h2 : 2 ≤ 2 ^ e.w.toNat := by have := Nat.pow_le_pow_right (n := 2) (i := 1) (j := e.w.toNat) (by omega) (by omega); omega
    have hb2 : ∀ b, b2n b < 2 ^ e.w.toNat := fun b => Nat.lt_of_lt_of_le (b2n_lt b) h2
    rw [evN_eq]
    by_cases o1 : e.op = 1
    · rw [if_pos o1, decide_eq_true_eq] at hf
      simp only [opN, if_pos o1]
      have h2 : ((2 : Int) ^ e.w.toNat) = ((2 ^ e.w.toNat : Nat) : Int) := by simp
      omega
    rw [if_neg o1] at hf
    by_cases o2 : e.op = 2
    · simp only [opN, if_neg o1, if_pos o2]; exact lowb_lt _ _
    by_cases o3 : e.op = 3
    · simp only [opN, if_neg o1, if_neg o2, if_pos o3]; exact lowb_lt _ _
    rw [if_neg (by omega)] at hf
    by_cases o4 : e.op = 4
    · simp only [opN, if_neg o1, if_neg o2, if_neg o3, if_pos o4]; omega
    rw [if_neg o4] at hf
    by_cases o14 : e.op = 14
    · rw [if_neg (by omega), if_pos o14, decide_eq_true_eq] at hf
      obtain ⟨a, b, c, hks⟩ := list3 (l := e.kids) (by rw [hL, o14]; rfl)
      simp only [Ex.kw, hks, List.getD_cons_zero, List.getD_cons_succ] at hf
      simp only [opN, o14, Int.reduceEq, if_false, hks, List.map_cons, List.getD_cons_zero, List.getD_cons_succ]
      split
      · have := hkd b (by rw [hks]; simp); rwa [hf.2.2.1] at this
      · have := hkd c (by rw [hks]; simp); rwa [hf.2.2.2] at this
    have hb : 5 ≤ e.op ∧ e.op ≤ 13 := by
      unfold Ex.arity at ha
      repeat' split at ha
      all_goals omega
    obtain ⟨a, b, hks⟩ := list2 (l := e.kids) (by
      rw [hL, Ex.arity, if_neg (by omega), if_neg (by omega), if_pos (by omega)]; rfl)
    have ka := hkd a (by rw [hks]; simp)
    have kb := hkd b (by rw [hks]; simp)
    by_cases o11 : e.op = 11 ∨ e.op = 12 ∨ e.op = 13
    · rcases o11 with o | o | o <;> simp only [opN, o, Int.reduceEq, if_false, if_true] <;> exact hb2 _
    rw [if_neg o11, if_neg o14, decide_eq_true_eq] at hf
    simp only [Ex.kw, hks, List.getD_cons_zero, List.getD_cons_succ] at hf
    rw [hf.2.1] at ka; rw [hf.2.2] at kb
    have ho : e.op = 5 ∨ e.op = 6 ∨ e.op = 7 ∨ e.op = 8 ∨ e.op = 9 ∨ e.op = 10 := by omega
    rcases ho with o | o | o | o | o | o <;> simp only [opN, o, Int.reduceEq, if_false, if_true, hks, List.map_cons, List.getD_cons_zero, List.getD_cons_succ]
    · exact Nat.and_lt_two_pow _ kb
    · exact Nat.or_lt_two_pow ka kb
    · exact Nat.xor_lt_two_pow ka kb
    · exact Nat.mod_lt _ hp
    · exact Nat.mod_lt _ hp
    · exact Nat.mod_lt _ hp
end
theorem take_snoc {α : Type} {l : List α} {j : Nat} (d : α) (h : j < l.length) : l.take (j + 1) = l.take j ++ [l.getD j d] := by
  rw [List.take_add_one, List.getElem?_eq_getElem h, List.getD_eq_getElem?_getD, List.getElem?_eq_getElem h]; rfl
theorem getD_intsA {l : List Int} {k : Nat} (h : k < l.length) : (l.map fun x => A.d (iD x)).getD k .any = A.d (iD (l.getD k 0)) := by
  simp only [List.getD_eq_getElem?_getD, List.getElem?_map, List.getElem?_eq_getElem h]; rfl
theorem splice_intsA {l : List Int} {j : Nat} (x : Int) (h : j < l.length) : (l.map fun x => A.d (iD x)).take j ++ A.d (iD x) :: (l.map fun x => A.d (iD x)).drop (j + 1) = (l.set j x).map fun x => A.d (iD x) := by
  rw [List.map_set, List.set_eq_take_append_cons_drop, if_pos (by simpa using h)]
theorem getD_isD {l : List Int} {j : Nat} (h : j < l.length) : List.getD (List.map iD l) j default = iD (l.getD j 0) := getD_mapD h

theorem element_ac (l : List Int) (n : Int) (hn : 0 ≤ n) (hl : l.length ≤ reachBytes) (σ : St) (G : Glob) (R : A → St → Prop) (h : R (di (l.getD n.toNat 0)) σ) : AC Tryz.prog G 87 [dL l, di n] σ R := by
  refine ac_enter' mixed Tryz.func87 rfl Tryz.ntmps87 (by simp only [go_sem]) fun hbd => ?_
  simp only [List.length_cons, List.length_nil, Nat.reduceAdd, Nat.reduceSub, List.replicate_succ, List.replicate_zero, List.cons_append, List.nil_append]
  simp only [dL, isD, go_sem, List.length_map, Tryz.results87]
  refine ⟨fun q => ?_, fun q => ?_⟩
  · have q : n < l.length := by simpa using q
    have e1 := getD_isD (l := l) (j := n.toNat) (by omega)
    simp only [go_sem, e1, List.length_map, Tryz.results87]
    exact ⟨⟨by omega, by omega⟩, ret_d0 h⟩
  · have q : ¬ n < l.length := by simpa using q
    have e : l.getD n.toNat 0 = 0 := by rw [List.getD_eq_getElem?_getD, List.getElem?_eq_none (by omega)]; rfl
    rw [e] at h
    exact ret_d0 h
theorem truth_ac (b : Bool) (σ : St) (G : Glob) (R : A → St → Prop) (h : R (dn (b2n b)) σ) : AC Tryz.prog G 96 [db b] σ R := by
  refine ac_enter' mixed Tryz.func96 rfl Tryz.ntmps96 (by simp only [go_sem]) fun hbd => ?_
  simp only [List.length_cons, List.length_nil, Nat.reduceAdd, Nat.reduceSub, List.replicate_succ, List.replicate_zero, List.cons_append, List.nil_append]
  cases b
  · simp only [go_sem, Tryz.results96]
    exact ret_d0 h
  · simp only [go_sem, Tryz.results96]
    exact ret_d0 h
def appI (o : Int) (a b c : Nat) : Int :=
  if o = 4 then -1 - (a : Int) else if o = 5 then (a &&& b : Nat) else if o = 6 then (a ||| b : Nat) else if o = 7 then (a ^^^ b : Nat) else if o = 8 then (a : Int) + b else if o = 9 then (a : Int) - b else if o = 10 then (a : Int) * b
  else if o = 11 then (b2n (a == b) : Nat) else if o = 12 then (b2n (decide (a < b)) : Nat) else if o = 13 then (b2n (decide (a ≤ b)) : Nat) else if a = 1 then b else c
theorem mul_lt256 {a b : Nat} (ha : a < 256) (hb : b < 256) : a * b < 65536 := by
  have := Nat.mul_lt_mul'' ha hb
  omega
set_option maxHeartbeats 16000000 in
theorem app_ac (o : Int) (ho : 4 ≤ o ∧ o ≤ 14) (a b c : Nat) (ha : a < 256) (hb : b < 256) (hc : c < 256) (σ : St) (G : Glob) (R : A → St → Prop) (h : R (di (appI o a b c)) σ) : AC Tryz.prog G 88 [di o, .d (.agg [iD (a : Nat), iD (b : Nat), iD (c : Nat)])] σ R := by
  have ho' : o = 4 ∨ o = 5 ∨ o = 6 ∨ o = 7 ∨ o = 8 ∨ o = 9 ∨ o = 10 ∨ o = 11 ∨ o = 12 ∨ o = 13 ∨ o = 14 := by omega
  have wa : IntKind.i64.wrap ((a : Int) + b) = (a : Int) + b := wrap64_id _ (by omega) (by omega)
  have wn : IntKind.i64.wrap (0 - (b : Int)) = -(b : Int) := by rw [wrap64_id _ (by omega) (by omega)]; omega
  have ws : IntKind.i64.wrap ((a : Int) + -(b : Int)) = (a : Int) - b := by rw [wrap64_id _ (by omega) (by omega)]; omega
  have hml := mul_lt256 ha hb
  have wm : IntKind.i64.wrap ((a : Int) * b) = (a : Int) * b := by
    have : (a : Int) * b = ((a * b : Nat) : Int) := by simp
    rw [this]; exact wrap64_id _ (by omega) (by omega)
  have b1 := bNot_nat ha
  have b2 := bAnd_nat (a := a) (b := b) (by omega) (by omega)
  have b3 := bOr_nat (a := a) (b := b) (by omega) (by omega)
  have b4 := bXor_nat (a := a) (b := b) (by omega) (by omega)
  have t1 : ((a : Int) == (b : Int)) = (a == b) := by rw [Bool.eq_iff_iff, beq_iff_eq, beq_iff_eq]; omega
  have t2 : decide ((a : Int) < (b : Int)) = decide (a < b) := by apply decide_eq_decide.2; omega
  have t3 : ((a : Int) == 1) = (a == 1) := by rw [Bool.eq_iff_iff, beq_iff_eq, beq_iff_eq]; omega
  refine ac_enter' mixed Tryz.func88 rfl Tryz.ntmps88 (by simp only [go_sem]) fun hbd => ?_
  simp only [List.length_cons, List.length_nil, Nat.reduceAdd, Nat.reduceSub, List.replicate_succ, List.replicate_zero, List.cons_append, List.nil_append]
  simp only [go_sem, Tryz.results88]
  refine aw_plan (.tk 6 0 <| .done) (by kernel_rfl) ?_
  rcases ho' with rfl | rfl | rfl | rfl | rfl | rfl | rfl | rfl | rfl | rfl | rfl <;> simp only [appI, Int.reduceEq, if_true, if_false] at h <;> simp only [go_sem, Int.toNat_zero, Int.toNat_one, show Int.toNat 2 = 2 from rfl, Nat.one_mul, Nat.zero_mul, Nat.mul_one, List.length_cons, List.length_nil, Int.reduceBEq, wa, wn, ws, wm, b1, b2, b3, b4, t1, t2, t3, Tryz.results88]
  · exact ⟨⟨by omega, by omega⟩, ⟨by omega, by omega⟩, ret_d hbd h⟩
  · exact ⟨⟨by omega, by omega⟩, ⟨by omega, by omega⟩, ret_d hbd h⟩
  · exact ⟨⟨by omega, by omega⟩, ⟨by omega, by omega⟩, ret_d hbd h⟩
  · exact ⟨⟨by omega, by omega⟩, ⟨by omega, by omega⟩, ret_d hbd h⟩
  · exact ⟨⟨by omega, by omega⟩, ⟨by omega, by omega⟩, ret_d hbd h⟩
  · exact ⟨⟨by omega, by omega⟩, ⟨by omega, by omega⟩, ret_d hbd h⟩
  · exact ⟨⟨by omega, by omega⟩, ⟨by omega, by omega⟩, ret_d hbd h⟩
  · refine ⟨⟨by omega, by omega⟩, ⟨by omega, by omega⟩, ac' (truth_ac _ _ _ _ ?_)⟩
    simp only [go_sem, Tryz.results88]
    exact ret_d hbd h
  · refine ⟨⟨by omega, by omega⟩, ⟨by omega, by omega⟩, ac' (truth_ac _ _ _ _ ?_)⟩
    simp only [go_sem, Tryz.results88]
    exact ret_d hbd h
  · refine ⟨⟨by omega, by omega⟩, ⟨by omega, by omega⟩, fun q => ?_, fun q => ?_⟩
    · have q : a = b := by simpa using q
      rw [show decide (a ≤ b) = true by simp; omega] at h
      exact ret_d hbd h
    · have q : a ≠ b := by simpa using q
      rw [show decide (a ≤ b) = decide (a < b) by apply decide_eq_decide.2; omega] at h
      refine ac' (truth_ac _ _ _ _ ?_)
      simp only [go_sem, Tryz.results88]
      exact ret_d hbd h
  · refine ⟨⟨by omega, by omega⟩, ⟨by omega, by omega⟩, fun q => ?_, fun q => ⟨⟨by omega, by omega⟩, ?_⟩⟩
    · have q : a = 1 := by simpa using q
      rw [if_pos q] at h
      exact ret_d hbd h
    · have q : ¬ a = 1 := by simpa using q
      rw [if_neg q] at h
      exact ret_d hbd h
theorem lowb_natmod (n w : Nat) : lowb (n : Int) w = n % 2 ^ w := by
  simp only [lowb]
  have : ((n : Int) % ((2 ^ w : Nat) : Int)) = ((n % 2 ^ w : Nat) : Int) := by simp
  rw [this]; omega
theorem app_low (old now : List Int) (o : Int) (ho : 4 ≤ o ∧ o ≤ 14) (W : Nat) (h1 : 1 ≤ W) (h8 : W ≤ 8) (n : Int) (a b c : Nat) (k : List Nat) (k0 : k.getD 0 0 = a) (k1 : k.getD 1 0 = b) (k2 : k.getD 2 0 = c) (h4 : o = 4 → a < 2 ^ W) (h5 : 5 ≤ o → o ≤ 10 → a < 2 ^ W ∧ b < 2 ^ W) (h14 : o = 14 → b < 2 ^ W ∧ c < 2 ^ W) :
    lowb (appI o a b c) W = opN old now o W n k := by
  have h2 : 2 ≤ 2 ^ W := by have := Nat.pow_le_pow_right (n := 2) (i := 1) (j := W) (by omega) (by omega); omega
  have hb2 : ∀ t, b2n t < 2 ^ W := fun t => Nat.lt_of_lt_of_le (b2n_lt t) h2
  have hW : W = 1 ∨ W = 2 ∨ W = 3 ∨ W = 4 ∨ W = 5 ∨ W = 6 ∨ W = 7 ∨ W = 8 := by omega
  have ho' : o = 4 ∨ o = 5 ∨ o = 6 ∨ o = 7 ∨ o = 8 ∨ o = 9 ∨ o = 10 ∨ o = 11 ∨ o = 12 ∨ o = 13 ∨ o = 14 := by omega
  rcases ho' with rfl | rfl | rfl | rfl | rfl | rfl | rfl | rfl | rfl | rfl | rfl <;> simp only [appI, opN, Int.reduceEq, if_true, if_false, k0, k1, k2]
  · have := h4 rfl
    rcases hW with rfl | rfl | rfl | rfl | rfl | rfl | rfl | rfl <;> simp only [lowb, Nat.reducePow, Int.cast_ofNat_Int] at this ⊢ <;> omega
  · obtain ⟨q1, q2⟩ := h5 (by omega) (by omega)
    exact lowb_nat (Nat.and_lt_two_pow _ q2)
  · obtain ⟨q1, q2⟩ := h5 (by omega) (by omega)
    exact lowb_nat (Nat.or_lt_two_pow q1 q2)
  · obtain ⟨q1, q2⟩ := h5 (by omega) (by omega)
    exact lowb_nat (Nat.xor_lt_two_pow q1 q2)
  · rw [show (a : Int) + b = ((a + b : Nat) : Int) by simp, lowb_natmod]
  · obtain ⟨q1, q2⟩ := h5 (by omega) (by omega)
    rcases hW with rfl | rfl | rfl | rfl | rfl | rfl | rfl | rfl <;> simp only [lowb, Nat.reducePow, Int.cast_ofNat_Int] at q1 q2 ⊢ <;> omega
  · rw [show (a : Int) * b = ((a * b : Nat) : Int) by simp, lowb_natmod]
  · exact lowb_nat (hb2 _)
  · exact lowb_nat (hb2 _)
  · exact lowb_nat (hb2 _)
  · obtain ⟨q1, q2⟩ := h14 rfl
    split
    · exact lowb_nat q1
    · exact lowb_nat q2
/-- Up to three values, the others zero. -/
def v3 (k : List Nat) : List Int := [(k.getD 0 0 : Nat), (k.getD 1 0 : Nat), (k.getD 2 0 : Nat)]
theorem v3_snoc {k : List Nat} {x : Nat} (h : k.length < 3) : (v3 k).set k.length (x : Int) = v3 (k ++ [x]) := by
  match k, h with
  | [], _ => rfl
  | [a], _ => rfl
  | [a, b], _ => rfl
set_option maxHeartbeats 16000000 in
theorem val_ac (old now : List Int) (ho : old.length ≤ reachBytes) (hn : now.length ≤ reachBytes) (l : Nat) : ∀ (e : Ex) (hok : e.Ok) (hd : e.deep l = true) (σ : St) (G : Glob) (hG : G.g 0 = some masksD) (R : A → St → Prop) (h : R (dn (evN old now e)) σ), AC Tryz.prog G 65 [.ea e.d 0, dL old, dL now] σ R := by
  induction l with
  | zero => intro e hok hd; simp [Ex.deep] at hd
  | succ l ih =>
    intro e hok hdp σ G hG R h
    obtain ⟨hk, hks⟩ := hok
    have hkd : ∀ k ∈ e.kids, k.deep l = true := fun k hk => deep_kid hdp hk
    have hf : e.fits = true := by simp only [Ex.deep, Bool.and_eq_true] at hdp; exact hdp.1
    have hev : ∀ fr, ev G fr (.global 0) = .ea masksD 0 := fun fr => ev_global hG
    have hn0 := fits_n hf
    simp only [Ex.fits, Bool.and_eq_true, decide_eq_true_eq] at hf
    obtain ⟨⟨ha, w1, w8⟩, hf⟩ := hf
    have hL : e.kids.length = (Ex.arity e.op).toNat := by omega
    obtain ⟨W, hW⟩ : ∃ W : Nat, e.w = W := ⟨e.w.toNat, by omega⟩
    have hWn : e.w.toNat = W := by omega
    rw [evN_eq, hWn] at h
    have hm := masks_at (W := W) (by omega)
    rw [Nat.mul_one] at hm
    rw [Ex.d_eq]
    by_cases o1 : e.op = 1
    · simp only [opN, if_pos o1] at h
      rw [show dn e.n.toNat = di ((e.n.toNat : Nat) : Int) from rfl, show ((e.n.toNat : Nat) : Int) = e.n by omega] at h
      refine ac_enter' mixed Tryz.func65 rfl Tryz.ntmps65 (by simp only [go_sem]) fun hbd => ?_
      simp only [List.length_cons, List.length_nil, Nat.reduceAdd, Nat.reduceSub, List.replicate_succ, List.replicate_zero, List.cons_append, List.nil_append]
      simp only [go_sem, o1, Int.reduceBEq, Tryz.results65]
      exact ret_d0 h
    by_cases o2 : e.op = 2
    · simp only [opN, if_neg o1, if_pos o2] at h
      refine ac_enter' mixed Tryz.func65 rfl Tryz.ntmps65 (by simp only [go_sem]) fun hbd => ?_
      simp only [List.length_cons, List.length_nil, Nat.reduceAdd, Nat.reduceSub, List.replicate_succ, List.replicate_zero, List.cons_append, List.nil_append]
      simp only [go_sem, o2, Int.reduceBEq, Tryz.results65]
      refine aw_plan (.tk 5 0 <| .take 6 <| .pure 5 <| .tk 7 7 <| .done) (by kernel_rfl) ?_
      simp only [go_sem, Tryz.results65]
      refine exP (di (now.getD e.n.toNat 0)) ⟨fun σ' => ac' (element_ac now e.n hn0 hn _ _ _ ⟨rfl, rfl⟩), ?_⟩
      have hbm := bAnd_mask (now.getD e.n.toNat 0) (w := W) (by omega)
      simp only [go_sem, hev, masksD, hW, hm, hbm, Int.toNat_natCast, Nat.mul_one, List.length_cons, List.length_nil, Tryz.results65]
      exact ⟨⟨by omega, by omega⟩, by omega, ret_d0 h⟩
    by_cases o3 : e.op = 3
    · simp only [opN, if_neg o1, if_neg o2, if_pos o3] at h
      refine ac_enter' mixed Tryz.func65 rfl Tryz.ntmps65 (by simp only [go_sem]) fun hbd => ?_
      simp only [List.length_cons, List.length_nil, Nat.reduceAdd, Nat.reduceSub, List.replicate_succ, List.replicate_zero, List.cons_append, List.nil_append]
      simp only [go_sem, o3, Int.reduceBEq, Tryz.results65]
      refine aw_plan (.tk 5 0 <| .take 6 <| .pure 5 <| .tk 7 7 <| .done) (by kernel_rfl) ?_
      simp only [go_sem, Tryz.results65]
      refine exP (di (old.getD e.n.toNat 0)) ⟨fun σ' => ac' (element_ac old e.n hn0 ho _ _ _ ⟨rfl, rfl⟩), ?_⟩
      have hbm := bAnd_mask (old.getD e.n.toNat 0) (w := W) (by omega)
      simp only [go_sem, hev, masksD, hW, hm, hbm, Int.toNat_natCast, Nat.mul_one, List.length_cons, List.length_nil, Tryz.results65]
      exact ⟨⟨by omega, by omega⟩, by omega, ret_d0 h⟩
    have hop : 4 ≤ e.op ∧ e.op ≤ 14 ∧ e.kids.length ≤ 3 := by
      unfold Ex.arity at ha
      split at ha
      · omega
      · split at ha
        · omega
        · split at ha
          · omega
          · split at ha <;> omega
    have b1 : (e.op == 1) = false := by simp [o1]
    have b2 : (e.op == 2) = false := by simp [o2]
    have b3 : (e.op == 3) = false := by simp [o3]
    have hlt8 : ∀ k ∈ e.kids, evN old now k < 256 := fun k hk => by
      have h1 := evN_lt (old := old) (now := now) l k (hkd k hk)
      have h2 : k.w ≤ 8 := by
        cases l with
        | zero => have := hkd k hk; simp [Ex.deep] at this
        | succ l =>
          have := hkd k hk
          simp only [Ex.deep, Bool.and_eq_true, Ex.fits, decide_eq_true_eq] at this
          exact this.1.1.2.2
      have := pow_le8 (w := k.w.toNat) (by omega)
      omega
    obtain ⟨kv, hkv⟩ : ∃ kv, e.kids.map (evN old now) = kv := ⟨_, rfl⟩
    rw [hkv] at h
    have hkvl : kv.length = e.kids.length := by rw [← hkv]; simp
    have hkvb : ∀ i, kv.getD i 0 < 256 := fun i => by
      rw [← hkv, List.getD_eq_getElem?_getD, List.getElem?_map]
      cases hq : e.kids[i]? with
      | none => simp
      | some k => exact hlt8 k (List.mem_of_getElem? hq)
    have hlow : lowb (appI e.op (kv.getD 0 0) (kv.getD 1 0) (kv.getD 2 0)) W = opN old now e.op W e.n kv := by
      have hkw : ∀ i, i < e.kids.length → kv.getD i 0 < 2 ^ (e.kw i).toNat := fun i hi => by
        rw [← hkv, List.getD_eq_getElem?_getD, List.getElem?_map, List.getElem?_eq_getElem hi]
        have := evN_lt (old := old) (now := now) l e.kids[i] (hkd _ (List.getElem_mem hi))
        simp only [Option.map_some, Option.getD_some, Ex.kw]
        rw [List.getD_eq_getElem?_getD, List.getElem?_eq_getElem hi]
        exact this
      rw [if_neg o1, if_neg (by omega)] at hf
      refine app_low old now e.op ⟨hop.1, hop.2.1⟩ W (by omega) (by omega) e.n _ _ _ kv rfl rfl rfl (fun o => ?_) (fun g1 g2 => ?_) (fun o => ?_)
      · rw [if_pos o, decide_eq_true_eq] at hf
        have := hkw 0 (by rw [hL, o]; decide)
        rwa [hf.2, hWn] at this
      · rw [if_neg (by omega), if_neg (by omega), if_neg (by omega), decide_eq_true_eq] at hf
        have hl2 : e.kids.length = 2 := by rw [hL, Ex.arity, if_neg (by omega), if_neg (by omega), if_pos (by omega)]; rfl
        have h0 := hkw 0 (by omega)
        have h1 := hkw 1 (by omega)
        rw [hf.2.1, hWn] at h0; rw [hf.2.2, hWn] at h1
        exact ⟨h0, h1⟩
      · rw [if_neg (by omega), if_neg (by omega), if_pos o, decide_eq_true_eq] at hf
        have hl3 : e.kids.length = 3 := by rw [hL, o]; rfl
        have h1 := hkw 1 (by omega)
        have h2 := hkw 2 (by omega)
        rw [hf.2.2.1, hWn] at h1; rw [hf.2.2.2, hWn] at h2
        exact ⟨h1, h2⟩
    refine ac_enter' mixed Tryz.func65 rfl Tryz.ntmps65 (by simp only [go_sem]) fun hbd => ?_
    simp only [List.length_cons, List.length_nil, Nat.reduceAdd, Nat.reduceSub, List.replicate_succ, List.replicate_zero, List.cons_append, List.nil_append]
    simp only [go_sem, b1, b2, b3, List.length_map, Tryz.results65]
    refine aw_loop (fun m fr st => ∃ j : Nat, j ≤ e.kids.length ∧ m = e.kids.length - j ∧ fr = [.ea (.agg [iD e.op, iD e.w, iD e.n, .sl 4 (e.kids.map Ex.d)]) 0, dL old, dL now, .any, .any, .any, .any, .ref σ.length 0, .any, .any, .any, .any, .any, .any, .any, .any, .any, .any, .any, .any, .any, .any, .any, .any, .any, .any, .any, .any, .any, .any, .any, .any, .any, .any, .any, .any, .any, .any, .any, .any, .any, .any, .any, .any, .any, .any, .any, .any, .any, .any, .any, .any, .any, dn e.kids.length, dn j, .any, .any, .any, .any, .any, .any, .any, .any, .any, .any, .any, .any, .any, .any, .any, .any, .any, .any, .any, .any, .any, .any, .any, .any, .any, .any, .any] ∧ st = σ ++ [some (.cells ((v3 (kv.take j)).map fun x => .d (iD x)))]) e.kids.length _ (Wk.mask [0, 1, 2, 7, 53, 54] ⟨0, by omega, rfl, rfl, rfl⟩) ?_
    rintro m fr st ⟨j, hj, hm2, rfl, rfl⟩
    rcases Nat.lt_or_ge j e.kids.length with hlt | hge
    · have hdd : decide ((j : Int) < (e.kids.length : Int)) = true := by simp; omega
      obtain ⟨k, hkk⟩ : ∃ k, e.kids.getD j (.mk 0 0 0 []) = k := ⟨_, rfl⟩
      have hmem : k ∈ e.kids := hkk ▸ kid_mem hlt
      have e1 := kid_at hlt hkk
      have w2 := wrapS j (by omega)
      have hkj : kv.take (j + 1) = kv.take j ++ [evN old now k] := by
        rw [take_snoc 0 (by omega), ← hkv, ← hkk]
        congr 2
        rw [List.getD_eq_getElem?_getD, List.getElem?_map, List.getD_eq_getElem?_getD, List.getElem?_eq_getElem hlt]; rfl
      have hset := splice_intsA (l := v3 (kv.take j)) (j := j) ((evN old now k : Nat) : Int) (by simp [v3]; omega)
      have hvl : (v3 (kv.take j)).length = 3 := rfl
      have hv3 := v3_snoc (k := kv.take j) (x := evN old now k) (by rw [List.length_take]; omega)
      rw [show (kv.take j).length = j by rw [List.length_take]; omega] at hv3
      rw [hv3, ← hkj] at hset
      simp only [go_sem, hdd, List.length_map, e1, Int.toNat_natCast, Tryz.results65]
      rw [← Ex.d_eq k]
      refine ⟨⟨by omega, by omega⟩, ac' (ih k (hks k hmem) (hkd k hmem) _ _ hG _ ?_)⟩
      simp only [go_sem, w2, List.length_map, Int.toNat_natCast, Nat.mul_one, Nat.zero_add, hset, hvl, Tryz.results65]
      exact ⟨⟨by omega, by omega⟩, by omega, Wk.mask [0, 1, 2, 7, 53, 54] ⟨e.kids.length - (j + 1), by omega, j + 1, hlt, rfl, rfl, rfl⟩⟩
    · have hdd : decide ((j : Int) < (e.kids.length : Int)) = false := by simp; omega
      rw [List.take_of_length_le (by omega)]
      have hbm := bAnd_mask (appI e.op (kv.getD 0 0) (kv.getD 1 0) (kv.getD 2 0)) (w := W) (by omega)
      rw [hlow] at hbm
      simp only [go_sem, hdd, Tryz.results65]
      refine aw_plan (.tk 5 0 <| .take 6 <| .pure 5 <| .tk 7 7 <| .done) (by kernel_rfl) ?_
      simp only [go_sem, v3, List.map_cons, List.map_nil, List.length_cons, List.length_nil, Tryz.results65]
      refine exP (di (appI e.op (kv.getD 0 0) (kv.getD 1 0) (kv.getD 2 0))) ⟨fun σ' => ?_, ?_⟩
      · simp only [go_sem]
        exact ac' (app_ac e.op ⟨hop.1, hop.2.1⟩ _ _ _ (hkvb 0) (hkvb 1) (hkvb 2) _ _ _ ⟨rfl, rfl⟩)
      simp only [go_sem, hev, masksD, hW, hm, hbm, Int.toNat_natCast, Nat.mul_one, List.length_cons, List.length_nil, Tryz.results65]
      exact ⟨⟨by omega, by omega⟩, by omega, ret_d hbd h⟩
theorem eval_ac (e : Ex) (hok : e.Ok) (hn6 : e.nodes ≤ 600) (hd : e.deep 40 = true) (old now : List Int) (ho : old.length ≤ reachBytes) (hn : now.length ≤ reachBytes) (σ : St) (G : Glob) (hG : G.g 0 = some masksD) (R : A → St → Prop) (h : R (dn (evN old now e)) σ) : AC Tryz.prog G 29 [.d e.d, dL old, dL now] σ R := by
  rw [Ex.d_eq]
  refine ac_enter' mixed Tryz.func29 rfl Tryz.ntmps29 (by simp only [go_sem]) fun hbd => ?_
  simp only [List.length_cons, List.length_nil, Nat.reduceAdd, Nat.reduceSub, List.replicate_succ, List.replicate_zero, List.cons_append, List.nil_append]
  simp only [go_sem, Tryz.results29]
  rw [← Ex.d_eq e]
  refine ac' (formed_prog e hok hn6 _ _ hG _ ?_)
  rw [hd]
  simp only [go_sem, Tryz.results29]
  refine ac' (ac_ref 0 [iD e.op, iD e.w, iD e.n, .sl 4 (e.kids.map Ex.d)] rfl (by intro d hd; simp at hd; rcases hd with rfl | rfl | rfl | rfl <;> rfl) ?_)
  have hm : List.map (refA (σ.length + 0) [iD e.op, iD e.w, iD e.n, .sl 4 (e.kids.map Ex.d)]) [A.ref σ.length 0, dL old, dL now] = [.ea e.d 0, dL old, dL now] := by
    simp [refA, Ex.d_eq]
  rw [hm]
  simp only [List.set]
  refine val_ac old now ho hn 40 e hok hd _ _ hG _ ?_
  simp only [go_sem, Tryz.results29]
  exact ret_d hbd h
end Go.Proofs.YtmjlhbkgljcnoaaGreatDoor
end PartT7

section PartT8
/- Copies of expressions. -/
set_option linter.unusedSimpArgs false
set_option linter.unusedVariables false
set_option maxRecDepth 100000
namespace Go.Proofs.YtmjlhbkgljcnoaaGreatDoor
open Go Go.Ab

theorem ret_w {G : Glob} {n0 : Nat} {a a' : A} {τ τ' : St} {R : A → St → Prop} (hw : Weak G n0 [a] τ [a'] τ') (h : ∃ r σ', Weak G n0 [a'] τ' [r] σ' ∧ R r σ') : ∃ r σ', Weak G n0 [a] τ [r] σ' ∧ R r σ' := by
  obtain ⟨r, s, h1, h2⟩ := h
  exact ⟨r, s, hw.trans h1, h2⟩
theorem two_ac (op w : Int) (a b : Ex) (σ : St) (G : Glob) (R : A → St → Prop) (h : R (.d (Ex.mk op w 0 [a, b]).d) σ) : AC Tryz.prog G 17 [di op, di w, .d a.d, .d b.d] σ R := by
  rw [Ex.d_eq a, Ex.d_eq b]
  refine ac_enter mixed Tryz.func17 rfl Tryz.ntmps17 (by simp only [go_sem]) fun hbd => ?_
  simp only [List.length_cons, List.length_nil, Nat.reduceAdd, Nat.reduceSub, List.replicate_succ, List.replicate_zero, List.cons_append, List.nil_append]
  simp only [go_sem, Tryz.results17]
  refine ret_w (Weak.deep [3] 6) ?_
  simp only [go_sem]
  have e : (Ex.mk op w 0 [a, b]).d = .agg [iD op, iD w, iD 0, .sl 4 [.agg [iD a.op, iD a.w, iD a.n, .sl 4 (a.kids.map Ex.d)], .agg [iD b.op, iD b.w, iD b.n, .sl 4 (b.kids.map Ex.d)]]] := by
    rw [← Ex.d_eq a, ← Ex.d_eq b, Ex.d_eq]; rfl
  rw [e] at h
  exact ret_bd hbd rfl h
theorem d_mk (o w n : Int) (k : List Ex) : (Ex.mk o w n k).d = .agg [iD o, iD w, iD n, .sl 4 (k.map Ex.d)] := Ex.d_eq _
theorem same_ac (n : Ex) (σ : St) (G : Glob) (R : A → St → Prop) (h : R (.d (Ex.mk n.op n.w n.n []).d) σ) : AC Tryz.prog G 53 [.ea n.d 0] σ R := by
  rw [Ex.d_eq n]
  refine ac_enter' mixed Tryz.func53 rfl Tryz.ntmps53 (by simp only [go_sem]) fun hbd => ?_
  simp only [List.length_cons, List.length_nil, Nat.reduceAdd, Nat.reduceSub, List.replicate_succ, List.replicate_zero, List.cons_append, List.nil_append]
  simp only [go_sem, Tryz.results53]
  refine aw_plan (.tk 14 0 <| .done) (by kernel_rfl) ?_
  simp only [go_sem, Tryz.results53]
  exact leaf_end hbd h
/-- A leaf, a cell of it read before the step. -/
def befN (n : Ex) : Ex := .mk (if n.op = 2 then 3 else n.op) n.w n.n []
theorem befL_ac (n : Ex) (σ : St) (G : Glob) (R : A → St → Prop) (h : R (.d (befN n).d) σ) : AC Tryz.prog G 52 [.ea n.d 0] σ R := by
  rw [Ex.d_eq n]
  refine ac_enter' mixed Tryz.func52 rfl Tryz.ntmps52 (by simp only [go_sem]) fun hbd => ?_
  simp only [List.length_cons, List.length_nil, Nat.reduceAdd, Nat.reduceSub, List.replicate_succ, List.replicate_zero, List.cons_append, List.nil_append]
  simp only [go_sem, Tryz.results52]
  rw [← Ex.d_eq n]
  refine ac' (same_ac n _ _ _ ?_)
  rw [Ex.d_eq n, d_mk, List.map_nil]
  simp only [go_sem, Tryz.results52]
  refine ⟨fun q => ret_d hbd ?_, fun q => ret_d hbd ?_⟩
  · have q' : n.op = 2 := by simpa using q
    rw [befN, if_pos q', d_mk] at h
    exact h
  · have q' : ¬ n.op = 2 := by simpa using q
    rw [befN, if_neg q', d_mk] at h
    exact h
/-- A copy in which the leaves are replaced. -/
def Ex.reb (f : Ex → Ex) : Ex → Ex
  | .mk o w n k => if k = [] then f (.mk o w n []) else .mk o w n (rebL f k)
where rebL (f : Ex → Ex) : List Ex → List Ex
  | [] => []
  | e :: r => e.reb f :: rebL f r
theorem rebL_map (f : Ex → Ex) : ∀ l : List Ex, Ex.reb.rebL f l = l.map (Ex.reb f)
  | [] => rfl
  | e :: r => by simp [Ex.reb.rebL, rebL_map f r]
theorem reb_leaf {f : Ex → Ex} {e : Ex} (h : e.kids = []) : e.reb f = f e := by
  cases e with | mk o w n k => simp only [Ex.kids] at h; subst h; simp [Ex.reb]
theorem reb_node {f : Ex → Ex} {e : Ex} (h : e.kids ≠ []) : e.reb f = .mk e.op e.w e.n (e.kids.map (Ex.reb f)) := by
  cases e with
  | mk o w n k =>
    simp only [Ex.kids] at h
    simp only [Ex.reb, if_neg h, rebL_map, Ex.op, Ex.w, Ex.n, Ex.kids]
/-- The cells of an expression, and of one not made yet. -/
def exC (e : Ex) : List A := [.d (iD e.op), .d (iD e.w), .d (iD e.n), .d (.sl 4 (e.kids.map Ex.d))]
def exZ : List A := [di 0, di 0, di 0, .d .nils]
theorem exC_len (l : List Ex) : (l.flatMap exC).length = 4 * l.length := by
  induction l with
  | nil => rfl
  | cons e l ih => rw [List.flatMap_cons, List.length_append, ih]; simp [exC]; omega
/-- Copies made so far, and those to come. -/
def exP (l : List Ex) (m : Nat) : List A := l.flatMap exC ++ (List.replicate m exZ).flatten
theorem exP_put (l : List Ex) (m : Nat) (e : Ex) : (exP l (m + 1)).take (l.length * 4) ++ (exC e ++ (exP l (m + 1)).drop (l.length * 4 + 4)) = exP (l ++ [e]) m := by
  have h := exC_len l
  unfold exP
  rw [List.take_append_of_le_length (by omega), List.take_of_length_le (by omega), List.drop_append, h, List.drop_eq_nil_of_le (by omega), List.nil_append, show l.length * 4 + 4 - 4 * l.length = 4 by omega, List.replicate_succ, List.flatten_cons, List.flatMap_append, List.append_assoc]
  rfl
theorem exC_flat (l : List Ex) : l.flatMap exC = flat (l.map Ex.d) := by
  induction l with
  | nil => rfl
  | cons e l ih => rw [List.flatMap_cons, ih, List.map_cons, flat_cons, Ex.d_eq e]; rfl
theorem exC_lies (l : List Ex) : Lies (l.flatMap exC) 4 0 (l.map Ex.d) := by
  rw [exC_flat]
  refine lies_of fun x hx => ?_
  obtain ⟨e, -, rfl⟩ := List.mem_map.1 hx
  rw [Ex.d_eq]
  exact ⟨rfl, fun y hy => by simp [D.cells] at hy; rcases hy with rfl | rfl | rfl | rfl <;> rfl⟩
theorem kids_le (e : Ex) : e.kids.length ≤ e.nodes := by
  have h : ∀ l : List Ex, l.length ≤ (l.map Ex.nodes).sum := by
    intro l
    induction l with
    | nil => exact Nat.le_refl _
    | cons a l ih =>
      rw [List.length_cons, List.map_cons, List.sum_cons]
      have : 1 ≤ a.nodes := by rw [Ex.nodes_eq]; omega
      omega
  have := h e.kids
  rw [Ex.nodes_eq]; omega
theorem kid_nodes {e k : Ex} (h : k ∈ e.kids) : k.nodes < e.nodes := by
  have : ∀ l : List Ex, k ∈ l → k.nodes ≤ (l.map Ex.nodes).sum := by
    intro l
    induction l with
    | nil => intro h; cases h
    | cons a l ih =>
      intro h
      rw [List.map_cons, List.sum_cons]
      rcases List.mem_cons.1 h with rfl | h
      · omega
      · have := ih h; omega
  have := this _ h
  rw [Ex.nodes_eq e]; omega
set_option maxHeartbeats 4000000 in
theorem rebuild_ac (g : FuncId) (f : Ex → Ex) (G : Glob) (hg : ∀ n : Ex, n.kids = [] → ∀ (σ : St) (R : A → St → Prop), R (.d (f n).d) σ → AC Tryz.prog G g [.ea n.d 0] σ R) (e : Ex) (hok : e.Ok) :
    ∀ (hn : e.nodes ≤ 600) (σ : St) (R : A → St → Prop), R (.d (e.reb f).d) σ → AC Tryz.prog G 51 [.ea e.d 0, .fn (.func g) [] []] σ R := by
  induction hok with
  | mk hk hks ih =>
  rename_i e
  intro hn σ R h
  rw [Ex.d_eq]
  by_cases hz : e.kids = []
  · have hl : e.kids.length = 0 := by rw [hz]; rfl
    rw [reb_leaf hz] at h
    refine ac_enter' mixed Tryz.func51 rfl Tryz.ntmps51 (by simp only [go_sem]) fun hbd => ?_
    simp only [List.length_cons, List.length_nil, Nat.reduceAdd, Nat.reduceSub, List.replicate_succ, List.replicate_zero, List.cons_append, List.nil_append]
    simp only [go_sem, List.length_map, hl, show (((0 : Nat) : Int) == 0) = true from rfl, Tryz.results51]
    rw [← Ex.d_eq e]
    refine ac' (hg e hz _ _ ?_)
    rw [Ex.d_eq (f e)]
    simp only [go_sem, Tryz.results51]
    rw [Ex.d_eq (f e)] at h
    exact ret_d hbd h
  · have hl : (((e.kids.length : Nat) : Int) == 0) = false := by
      have : e.kids.length ≠ 0 := fun h => hz (List.eq_nil_of_length_eq_zero h)
      simp; omega
    have hkl := kids_le e
    rw [reb_node hz] at h
    refine ac_enter' mixed Tryz.func51 rfl Tryz.ntmps51 (by simp only [go_sem]) fun hbd => ?_
    simp only [List.length_cons, List.length_nil, Nat.reduceAdd, Nat.reduceSub, List.replicate_succ, List.replicate_zero, List.cons_append, List.nil_append]
    simp only [go_sem, List.length_map, hl, Tryz.results51]
    refine ⟨⟨by omega, by omega, by omega, by omega⟩, ?_⟩
    refine aw_loop (fun m fr st => ∃ j : Nat, j ≤ e.kids.length ∧ m = e.kids.length - j ∧
      fr = [.ea (.agg [iD e.op, iD e.w, iD e.n, .sl 4 (e.kids.map Ex.d)]) 0, .fn (.func g) [] [], .any, .any, .ref σ.length 0, .rs (σ.length + 1) 4 0 e.kids.length (some 25), .any, .any, .any, .any, .any, .any, .any, .any, .any, .any, .any, .any, .any, .any, .any, .any, .any, dn e.kids.length, dn j, .any, .any, .any, .any, .any, .any, .any, .any, .any, .any, .any, .any, .any, .any, .any, .any, .any, .any, .any, .any, .any, .any, .any, .any, .any, .any, .any, .any] ∧
      st = σ ++ [some (.cells [di 0, di 0, di 0, .d .nils]), some (.cells (exP ((e.kids.take j).map (Ex.reb f)) (e.kids.length - j)))]) e.kids.length _ ?_ ?_
    · exact Wk.mask [0, 1, 4, 5, 23, 24] ⟨0, by omega, rfl, rfl, by simp [exP, exZ]⟩
    rintro m fr st ⟨j, hj, hm, rfl, rfl⟩
    rcases Nat.lt_or_ge j e.kids.length with hlt | hge
    · have hdd : decide ((j : Int) < (e.kids.length : Int)) = true := by simp; omega
      obtain ⟨k, hkk⟩ : ∃ k, e.kids.getD j (.mk 0 0 0 []) = k := ⟨_, rfl⟩
      have hmem : k ∈ e.kids := hkk ▸ kid_mem hlt
      have e1 := kid_at hlt hkk
      have w2 := wrapS j (by omega)
      have hkn := kid_nodes hmem
      have hput := exP_put ((e.kids.take j).map (Ex.reb f)) (e.kids.length - (j + 1)) (k.reb f)
      have htl : ((e.kids.take j).map (Ex.reb f)).length = j := by rw [List.length_map, List.length_take]; omega
      have htk : (e.kids.take j).map (Ex.reb f) ++ [k.reb f] = (e.kids.take (j + 1)).map (Ex.reb f) := by
        rw [take_snoc (.mk 0 0 0 []) hlt, hkk, List.map_append]; rfl
      rw [htl, htk, show e.kids.length - (j + 1) + 1 = e.kids.length - j by omega] at hput
      have hpl : (exP ((e.kids.take j).map (Ex.reb f)) (e.kids.length - j)).length = e.kids.length * 4 := by
        unfold exP
        rw [List.length_append, exC_len, htl]
        have : ∀ m : Nat, (List.replicate m exZ).flatten.length = 4 * m := by
          intro m
          induction m with
          | zero => rfl
          | succ m ih => rw [List.replicate_succ, List.flatten_cons, List.length_append, ih]; simp [exZ]; omega
        rw [this]; omega
      simp only [go_sem, hdd, List.length_map, e1, w2, Tryz.results51]
      rw [← Ex.d_eq k]
      refine ⟨⟨by omega, by omega⟩, ac' (ih k hmem (by omega) _ _ ?_)⟩
      rw [Ex.d_eq (k.reb f)]
      simp only [exC, List.cons_append, List.nil_append] at hput
      simp only [go_sem, w2, Int.toNat_natCast, Nat.zero_add, hpl, Tryz.results51]
      rw [hput]
      exact ⟨⟨by omega, by omega⟩, by omega, Wk.mask [0, 1, 4, 5, 23, 24] ⟨e.kids.length - (j + 1), by omega, j + 1, hlt, rfl, rfl, rfl⟩⟩
    · have hdd : decide ((j : Int) < (e.kids.length : Int)) = false := by simp; omega
      obtain rfl : j = e.kids.length := by omega
      simp only [go_sem, hdd, Tryz.results51]
      refine aw_plan (.tk 15 0 <| .done) (by kernel_rfl) ?_
      simp only [go_sem, Tryz.results51]
      rw [Nat.sub_self]
      refine ret_frz 1 4 0 ((e.kids.map (Ex.reb f)).map Ex.d) rfl (by unfold exP; rw [List.replicate_zero, List.flatten_nil, List.append_nil]; exact exC_lies _) ?_
      rw [d_mk] at h
      simp only [go_sem, List.length_map]
      exact ret_d hbd h
theorem reb_same : ∀ (l : Nat) (e : Ex), e.deep l = true → e.reb (fun n => .mk n.op n.w n.n []) = e := by
  intro l
  induction l with
  | zero => intro e h; simp [Ex.deep] at h
  | succ l ih =>
    intro e h
    by_cases hz : e.kids = []
    · rw [reb_leaf hz]
      cases e with | mk o w n k => simp only [Ex.kids] at hz; subst hz; rfl
    · rw [reb_node hz]
      have : e.kids.map (Ex.reb fun n => .mk n.op n.w n.n []) = e.kids := by
        conv => rhs; rw [← List.map_id e.kids]
        exact List.map_congr_left fun k hk => ih k (deep_kid h hk)
      rw [this]
      cases e; rfl
theorem clone_ac (e : Ex) (hok : e.Ok) (hn : e.nodes ≤ 600) (hd : e.deep 40 = true) (σ : St) (G : Glob) (R : A → St → Prop) (h : R (.d e.d) σ) : AC Tryz.prog G 80 [.d e.d] σ R := by
  rw [Ex.d_eq]
  refine ac_enter' mixed Tryz.func80 rfl Tryz.ntmps80 (by simp only [go_sem]) fun hbd => ?_
  simp only [List.length_cons, List.length_nil, Nat.reduceAdd, Nat.reduceSub, List.replicate_succ, List.replicate_zero, List.cons_append, List.nil_append]
  simp only [go_sem, Tryz.results80]
  refine ac' (ac_ref 0 [iD e.op, iD e.w, iD e.n, .sl 4 (e.kids.map Ex.d)] rfl (by intro d hd; simp at hd; rcases hd with rfl | rfl | rfl | rfl <;> rfl) ?_)
  have hm : List.map (refA (σ.length + 0) [iD e.op, iD e.w, iD e.n, .sl 4 (e.kids.map Ex.d)]) [A.ref σ.length 0, A.fn (.func 53) [] []] = [.ea e.d 0, .fn (.func 53) [] []] := by
    simp [refA, Ex.d_eq]
  rw [hm]
  refine rebuild_ac 53 (fun n => .mk n.op n.w n.n []) G (fun n _ σ R h => same_ac n σ G R h) e hok hn _ _ ?_
  rw [reb_same 40 e hd, Ex.d_eq e]
  simp only [go_sem, List.set_cons_zero, Tryz.results80]
  rw [Ex.d_eq e] at h
  exact ret_d hbd h
theorem reb_bef : ∀ (l : Nat) (e : Ex), e.deep l = true → e.reb befN = bef e := by
  intro l
  induction l with
  | zero => intro e h; simp [Ex.deep] at h
  | succ l ih =>
    intro e h
    by_cases hz : e.kids = []
    · rw [reb_leaf hz]
      cases e with | mk o w n k => simp only [Ex.kids] at hz; subst hz; rfl
    · rw [reb_node hz]
      have h1 : e.kids.map (Ex.reb befN) = e.kids.map bef := List.map_congr_left fun k hk => ih k (deep_kid h hk)
      have hop : e.op ≠ 2 := by
        have hf : e.fits = true := by rw [deep_eq, Bool.and_eq_true] at h; exact h.1
        have f1 := ((fits_iff e).1 hf).1.1
        have : e.kids.length ≠ 0 := fun h => hz (List.eq_nil_of_length_eq_zero h)
        have := (arity_vals e.op).1
        intro o; omega
      have h2 : ∀ l : List Ex, befL l = l.map bef := by
        intro l
        induction l with
        | nil => rfl
        | cons a l ih => rw [befL, ih]; rfl
      rw [h1]
      cases e with
      | mk o w n k =>
        simp only [Ex.op] at hop
        simp only [Ex.op, Ex.w, Ex.n, Ex.kids, bef, if_neg hop, h2]
theorem before_ac (e : Ex) (hok : e.Ok) (hn : e.nodes ≤ 600) (hd : e.deep 40 = true) (σ : St) (G : Glob) (hG : G.g 0 = some masksD) (R : A → St → Prop) (h : R (.d (bef e).d) σ) : AC Tryz.prog G 13 [.d e.d] σ R := by
  rw [Ex.d_eq]
  refine ac_enter' mixed Tryz.func13 rfl Tryz.ntmps13 (by simp only [go_sem]) fun hbd => ?_
  simp only [List.length_cons, List.length_nil, Nat.reduceAdd, Nat.reduceSub, List.replicate_succ, List.replicate_zero, List.cons_append, List.nil_append]
  simp only [go_sem, Tryz.results13]
  rw [← Ex.d_eq e]
  refine ac' (formed_prog e hok hn _ _ hG _ ?_)
  rw [Ex.d_eq e, hd]
  simp only [go_sem, Tryz.results13]
  refine ac' (ac_ref 0 [iD e.op, iD e.w, iD e.n, .sl 4 (e.kids.map Ex.d)] rfl (by intro d hd; simp at hd; rcases hd with rfl | rfl | rfl | rfl <;> rfl) ?_)
  have hm : List.map (refA (σ.length + 0) [iD e.op, iD e.w, iD e.n, .sl 4 (e.kids.map Ex.d)]) [A.ref σ.length 0, A.fn (.func 52) [] []] = [.ea e.d 0, .fn (.func 52) [] []] := by
    simp [refA, Ex.d_eq]
  rw [hm]
  refine rebuild_ac 52 befN G (fun n _ σ R h => befL_ac n σ G R h) e hok hn _ _ ?_
  rw [reb_bef 40 e hd, Ex.d_eq (bef e)]
  simp only [go_sem, List.set_cons_zero, Tryz.results13]
  rw [Ex.d_eq (bef e)] at h
  exact ret_d hbd h
end Go.Proofs.YtmjlhbkgljcnoaaGreatDoor
end PartT8
