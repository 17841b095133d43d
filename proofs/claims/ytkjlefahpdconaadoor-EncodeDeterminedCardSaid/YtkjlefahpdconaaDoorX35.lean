import Derived.Test.YtkjlefahpdconaaDoorX34
import Derived.Test.YtkjlefahpdconaaDoorAbDefS

section PartB9
/- The builder: the bits of expressions. -/
set_option linter.unusedSimpArgs false
set_option linter.unusedVariables false
set_option maxRecDepth 100000
namespace Go.Proofs.YtkjlefahpdconaaDoor
open Go Go.Ab

/-- An object of one's own, which is none of the gates' objects. -/
structure Lc (L : Nat) (cs : List A) (ic : Nat) (σ : St) : Prop where
  at_ : σ[L]? = some (some (.cells cs))
  ne : L ≠ ic
theorem Lc.step {L iw ic ic' : Nat} {cs : List A} {σ σ' : St} (h : Lc L cs ic σ) (hw : L ≠ iw) (hs : Stp iw ic σ ic' σ') : Lc L cs ic' σ' := by
  obtain ⟨h1, h2⟩ := hs.at_ (lt_of_some h.at_) hw h.ne
  exact ⟨h1.trans h.at_, h2⟩
theorem Lc.app {L ic : Nat} {cs : List A} {σ : St} (h : Lc L cs ic σ) (l : St) : Lc L cs ic (σ ++ l) := ⟨by rw [List.getElem?_append_left (lt_of_some h.at_)]; exact h.at_, h.ne⟩
theorem Lc.set {L M ic : Nat} {cs : List A} {σ : St} (h : Lc L cs ic σ) (hm : M ≠ L) (x : Option Ob) : Lc L cs ic (σ.set M x) := ⟨by rw [set_other hm]; exact h.at_, h.ne⟩
/-- A list of lists that is being filled. -/
def partK (bs : List (List Int)) (n : Nat) : List A := bs.map (fun b => .d (.sl 1 (b.map iD))) ++ List.replicate (n - bs.length) (.d .nils)
theorem partK_set {bs : List (List Int)} {n j : Nat} (hj : bs.length = j) (h : j < n) (b : List Int) : (partK bs n).take j ++ A.d (.sl 1 (b.map iD)) :: (partK bs n).drop (j + 1) = partK (bs ++ [b]) n := by
  subst hj
  obtain ⟨k, hk⟩ : ∃ k, n - bs.length = k + 1 := ⟨n - bs.length - 1, by omega⟩
  have hl : (bs.map fun b => A.d (.sl 1 (b.map iD))).length = bs.length := by simp
  simp only [partK, List.length_append, List.length_cons, List.length_nil, hk]
  rw [show n - (bs.length + (0 + 1)) = k by omega, List.take_append_of_le_length (by omega), List.take_of_length_le (by omega)]
  rw [List.drop_append, List.drop_eq_nil_of_le (by omega), hl, show bs.length + 1 - bs.length = 1 by omega]
  simp [List.replicate_succ]
theorem partK_len {bs : List (List Int)} {n : Nat} (h : bs.length ≤ n) : (partK bs n).length = n := by simp [partK]; omega
theorem partK_full {bs : List (List Int)} {n : Nat} (h : n ≤ bs.length) : partK bs n = bs.map fun b => .d (.sl 1 (b.map iD)) := by simp [partK, show n - bs.length = 0 by omega]
theorem nils_cells (n : Nat) : (List.replicate n [A.d .nils]).flatten = partK [] n := by
  simp only [partK, List.map_nil, List.nil_append, List.length_nil, Nat.sub_zero]
  induction n with
  | zero => rfl
  | succ n ih => rw [List.replicate_succ, List.flatten_cons, ih, List.replicate_succ]; rfl
theorem KL.snoc {k : Ex} {b : List Int} {n : Nat} : ∀ {ks : List Ex} {bs : List (List Int)}, KL ks bs n → LL k.w.toNat b n → KL (ks ++ [k]) (bs ++ [b]) n
  | [], [], _, h => ⟨h, trivial⟩
  | _ :: ks, _ :: bs, h, hb => ⟨h.1, KL.snoc h.2 hb⟩
  | [], b :: bs, h, _ => h.elim
  | k :: ks, [], h, _ => h.elim
theorem KL.len {n : Nat} : ∀ {ks : List Ex} {bs : List (List Int)}, KL ks bs n → bs.length = ks.length
  | [], [], _ => rfl
  | _ :: ks, _ :: bs, h => by simp [KL.len h.2]
  | [], b :: bs, h => h.elim
  | k :: ks, [], h => h.elim
section
variable {X : Bx} {G : Glob} {ic ic' : Nat} {gs gs' : List Gt} {σ σ' : St}
/-- Where the cells of the leaves lie. -/
structure Bx.Lay (X : Bx) (l : List Ex) : Prop where
  o : LayOK X.first X.lo 3 l
  n : LayOK X.first X.ln 2 l
  ol : ∀ e ∈ l, e.op = 3 → e.n < X.lo.length
  nl : ∀ e ∈ l, e.op = 2 → e.n < X.ln.length
theorem Bx.Lay.sub {l m : List Ex} (h : X.Lay l) (hm : ∀ e ∈ m, e ∈ l) : X.Lay m :=
  ⟨fun e he => h.o e (hm e he), fun e he => h.n e (hm e he), fun e he => h.ol e (hm e he), fun e he => h.nl e (hm e he)⟩
theorem bitsL_cons (first : Nat) (lo ln : List Int) (e : Ex) (r : List Ex) : bitsL first lo ln (e :: r) = bnd (bitsM first lo ln e) fun b => bnd (bitsL first lo ln r) fun bs => retM (b :: bs) := by simp only [bitsL]
set_option maxHeartbeats 8000000 in
theorem bits_ac (l : Nat) : ∀ (e : Ex) (hok : e.Ok) (hd : e.deep l = true) (hlay : X.Lay e.lvs) {ic : Nat} {gs : List Gt} {σ : St} (hs : Bs X G ic gs σ) (R : A → St → Prop)
    (h : Cb X G (bitsM X.first X.lo X.ln e) (LLR e.w.toNat) dL ic gs σ R), AC Tryd.prog G 51 [.ref X.ib 0, .d e.d] σ R := by
  induction l with
  | zero => intro e hok hd; simp [Ex.deep] at hd
  | succ l ih =>
    intro e hok hdp hlay ic gs σ hs R h
    have hbho := bits_ho (old := []) (now := []) (l + 1) e hdp hs.good hlay.o hlay.n
    obtain ⟨hk, hks⟩ := hok
    have hkd : ∀ k ∈ e.kids, k.deep l = true := fun k hk => deep_kid hdp hk
    have hkl : ∀ k ∈ e.kids, ∀ n ∈ k.lvs, n ∈ e.lvs := fun k hk n hn => by
      rw [Ex.lvs_node (fun h => by rw [h] at hk; cases hk)]
      exact List.mem_flatMap.2 ⟨k, hk, hn⟩
    have hf : e.fits = true := by simp only [Ex.deep, Bool.and_eq_true] at hdp; exact hdp.1
    simp only [Ex.fits, Bool.and_eq_true, decide_eq_true_eq] at hf
    obtain ⟨⟨ha, w1, w8⟩, hf⟩ := hf
    have hL : e.kids.length = (Ex.arity e.op).toNat := by omega
    have hop : 1 ≤ e.op ∧ e.op ≤ 14 ∧ e.kids.length ≤ 3 := by
      unfold Ex.arity at ha
      split at ha
      · omega
      · split at ha
        · omega
        · split at ha
          · omega
          · split at ha <;> omega
    have hiw : X.iw < σ.length := lt_of_some hs.bo.w
    have hic : ic < σ.length := lt_of_some hs.bo.c
    have hib : X.ib < σ.length := lt_of_some hs.b
    have h00 := hs.since.keep.1
    obtain ⟨W, hW⟩ : ∃ W : Nat, e.w = W := ⟨e.w.toNat, by omega⟩
    rw [Ex.d_eq]
    refine ac_enter' mixed Tryd.func51 rfl Tryd.ntmps51 (by simp only [go_sem]) fun hbd => ?_
    simp only [List.length_cons, List.length_nil, Nat.reduceAdd, Nat.reduceSub, List.replicate_succ, List.replicate_zero, List.cons_append, List.nil_append]
    simp only [go_sem, List.length_map, Int.toNat_natCast, nils_cells]
    refine ⟨⟨by omega, by omega, by omega, by omega⟩, ?_⟩
    obtain ⟨E, hE⟩ : ∃ E, E = σ.length := ⟨_, rfl⟩
    obtain ⟨K, hK⟩ : ∃ K, K = σ.length + 1 := ⟨_, rfl⟩
    refine aw_loop (fun m fr st => ∃ (j : Nat) (bs : List (List Int)) (gs1 : List Gt) (ic1 : Nat), j ≤ e.kids.length ∧ m = e.kids.length - j ∧
      After (bitsL X.first X.lo X.ln e.kids gs) (bs ++ ·) (bitsL X.first X.lo X.ln (e.kids.drop j) gs1) ∧ gs.length ≤ gs1.length ∧ KL (e.kids.take j) bs (X.first + gs1.length) ∧
      Bs X G ic1 gs1 st ∧ Stp X.iw ic σ ic1 st ∧ Lc E [.d (iD e.op), .d (iD e.w), .d (iD e.n), .d (.sl 4 (e.kids.map Ex.d))] ic1 st ∧ Lc K (partK bs e.kids.length) ic1 st ∧
      fr = [.ref X.ib 0, .any, .any, .ref E 0, .any, .rs K 1 0 e.kids.length (some 28), .any, .any, .any, .any, .any, .any, .any, .any, .any, .any, .any, .any, .any, .d (.sl 4 (e.kids.map Ex.d)), dn e.kids.length, dn j, .any, .any, .any, .any, .any, .any, .any, .any, .any, .any, .any, .any, .any, .any, .any, .any, .any, .any, .any, .any, .any, .any, .any, .any, .any, .any, .any, .any, .any, .any, .any, .any, .any, .any, .any, .any, .any, .any, .any, .any, .any, .any, .any, .any, .any, .any, .any, .any, .any, .any, .any, .any, .any, .any, .any, .any, .any, .any, .any, .any, .any, .any, .any, .any, .any, .any, .any, .any, .any, .any, .any, .any, .any, .any, .any, .any, .any, .any, .any, .any, .any, .any, .any, .any, .any]) e.kids.length _ ?_ ?_
    · rw [hE, hK]
      exact Wk.mask [0, 3, 5, 19, 20, 21] ⟨0, [], gs, ic, by omega, rfl, ⟨fun e => e, fun rs gs2 e => e⟩, Nat.le_refl _, trivial, hs.app _, Stp.app _ _, ⟨by simp, by omega⟩, ⟨by simp, by omega⟩, rfl⟩
    rintro m fr st ⟨j, bs, gs1, ic1, hj, hm, heq, hgl, hkl1, hs1, hst1, hlE, hlK, rfl⟩
    have h8 := hs1.small
    have hst1l := hst1.keep.1
    have nE1 : E ≠ X.iw := by omega
    have nE2 : E ≠ X.ib := by omega
    have nK1 : K ≠ X.iw := by omega
    have nK2 : K ≠ X.ib := by omega
    have nEK : K ≠ E := by omega
    have hbl : bs.length = j := by have := KL.len hkl1; rw [this, List.length_take]; omega
    rcases Nat.lt_or_ge j e.kids.length with hlt | hge
    · have hd : decide ((j : Int) < (e.kids.length : Int)) = true := by simp; omega
      obtain ⟨k, hkk⟩ : ∃ k, e.kids.getD j (.mk 0 0 0 []) = k := ⟨_, rfl⟩
      have hmem : k ∈ e.kids := hkk ▸ kid_mem hlt
      have e1 := kid_at hlt hkk
      have w2 := wrapS j (by omega)
      rw [drop_getD (.mk 0 0 0 []) hlt, hkk, bitsL_cons] at heq
      simp only [go_sem, hd, List.length_map, e1, Tryd.results51]
      refine ⟨⟨by omega, by omega⟩, ?_⟩
      rw [← Ex.d_eq k]
      refine ac' (ih k (hks k hmem) (hkd k hmem) (hlay.sub (hkl k hmem)) (hs1.app _) _ ⟨fun e8 => h.no (by rw [bitsM_eq]; have := heq.no (by simp only [bnd, e8, Option.bind_none]); simp only [bnd, this, Option.bind_none]), fun b gs2 ic2 σ2 q2 l2 n2 hs2 hst2 => ?_⟩)
      have hst2' : Stp X.iw ic1 st ic2 σ2 := (Stp.app _ _).trans hst2
      have hlE2 := hlE.step nE1 hst2'
      have hlK2 := hlK.step nK1 hst2'
      have hset := partK_set hbl hlt b
      have hpl : (partK bs e.kids.length).length = e.kids.length := partK_len (by omega)
      have htk : e.kids.take (j + 1) = e.kids.take j ++ [k] := by
        rw [List.take_add_one, List.getElem?_eq_getElem hlt, ← hkk, List.getD_eq_getElem?_getD, List.getElem?_eq_getElem hlt]; rfl
      simp only [dL, isD, go_sem, live_of hlK2.at_, objK_of hlK2.at_, List.length_map, Int.toNat_natCast, Nat.mul_one, Nat.zero_add, hset, hpl, w2, Tryd.results51]
      refine ⟨⟨by omega, by omega⟩, hlt, Wk.mask [0, 3, 5, 19, 20, 21] ⟨e.kids.length - (j + 1), by omega, j + 1, bs ++ [b], gs2, ic2, hlt, rfl, ⟨fun e8 => heq.no (by simp only [bnd, q2, e8, Option.bind_some, Option.bind_none]), fun rs gs8 e8 => ?_⟩, by omega, ?_, hs2.set (i := K) (by omega) hlK2.ne nK2 nK1 _, (hst1.trans hst2').set (i := K) (by omega) _, hlE2.set nEK _, ⟨set_same hlK2.at_, hlK2.ne⟩, rfl⟩⟩
      · rw [heq.yes (b :: rs) gs8]
        · simp
        · simp only [bnd, q2, e8, Option.bind_some, retM]
      · rw [htk]; exact KL.snoc (hkl1.mono (by omega)) l2
    · have hd : decide ((j : Int) < (e.kids.length : Int)) = false := by simp; omega
      obtain rfl : j = e.kids.length := by omega
      rw [List.take_length] at hkl1
      rw [partK_full (by omega)] at hlK
      have ebs := heq.yes [] gs1 (by rw [List.drop_eq_nil_of_le hge]; rfl)
      rw [List.append_nil] at ebs
      have hb0 := hs1.b
      have hXl : X.cells.length = 18 := rfl
      have hfin : ∀ r gs' ic' σ', opM X.first X.lo X.ln e.op e.w.toNat e.n bs gs1 = some (r, gs') → X.first + gs1.length ≤ X.first + gs'.length → Bs X G ic' gs' σ' → Stp X.iw ic σ ic' σ' → R (dL r) σ' := fun r gs' ic' σ' q1 q2 q3 q4 => by
        have e8 : bitsM X.first X.lo X.ln e gs = some (r, gs') := by rw [bitsM_eq]; simp only [bnd, ebs, q1, Option.bind_some]
        obtain ⟨-, -, hll, -⟩ := hbho _ _ e8
        exact h.yes r gs' ic' σ' e8 hll (by omega) q3 q4
      have hno : opM X.first X.lo X.ln e.op e.w.toNat e.n bs gs1 = none → X.Q := fun e8 => h.no (by rw [bitsM_eq]; simp only [bnd, ebs, e8, Option.bind_some])
      clear heq ebs h hbho ih
      simp only [go_sem, hd, Tryd.results51]
      refine aw_plan (.tk 7 0 <| .done) (by kernel_rfl) ?_
      by_cases o5 : e.op = 5 ∨ e.op = 6 ∨ e.op = 7
      · obtain ⟨f, F, htab, hopM, hF, hFho⟩ : ∃ (f : FuncId) (F : Int → Int → Gm Int), X.cells.getD (1 + e.op.toNat) .any = .ifc 111 (.fn (.func f) [] []) ∧ opM X.first X.lo X.ln e.op e.w.toNat e.n bs = zipM F (bs.getD 0 []) (bs.getD 1 []) ∧
            (∀ {ic : Nat} {gs : List Gt} {σ : St} (hs : Bs X G ic gs σ) {a b : Int} (ha : Lit (X.first + gs.length) a) (hb : Lit (X.first + gs.length) b) (R : A → St → Prop) (h : Cb X G (F a b) LitR di ic gs σ R), AC Tryd.prog G f [.ref X.ib 0, di a, di b] σ R) ∧ True := by
          rcases o5 with o | o | o <;> rw [o]
          · exact ⟨52, andM X.first, rfl, rfl, fun hs _ _ ha hb R h => and_ac hs ha hb R h, trivial⟩
          · exact ⟨70, orM X.first, rfl, rfl, fun hs _ _ ha hb R h => or_ac hs ha hb R h, trivial⟩
          · exact ⟨71, xorM X.first, rfl, rfl, fun hs _ _ ha hb R h => xor_ac hs ha hb R h, trivial⟩
        simp only [go_sem, live_of hlE.at_, objK_of hlE.at_, live_of hb0, objK_of hb0, hXl, htab, Nat.mul_one, Nat.reduceEqDiff, if_true, if_false, Tryd.results51]
        obtain ⟨x, y, rfl, hx, hy⟩ : ∃ x y, bs = [x, y] ∧ LL W x (X.first + gs1.length) ∧ LL W y (X.first + gs1.length) := by
          rw [if_neg (by omega), if_neg (by omega), if_neg (by omega), if_neg (by omega), if_neg (by omega), decide_eq_true_eq] at hf
          obtain ⟨ka, kb, hks2⟩ := list2 (l := e.kids) (by rw [hL, Ex.arity, if_neg (by omega), if_neg (by omega), if_pos (by omega)]; rfl)
          rw [hks2] at hkl1
          simp only [Ex.kw, hks2, List.getD_cons_zero, List.getD_cons_succ] at hf
          obtain ⟨x, y, rfl, hx, hy⟩ := kl2 hkl1
          rw [hf.2.1, hW] at hx; rw [hf.2.2, hW] at hy
          exact ⟨x, y, rfl, hx, hy⟩
        rw [hopM] at hfin hno
        simp only [List.getD_cons_zero, List.getD_cons_succ] at hfin hno
        have hxl := hx.1
        have hyl := hy.1
        have hk2 : e.kids.length = 2 := by rw [← hbl]; rfl
        simp only [List.map_cons, List.map_nil] at hlK
        rw [hk2]
        simp only [go_sem, hW, List.length_map, Int.toNat_natCast, zeros_cells]
        refine ⟨⟨by omega, by omega⟩, by omega, ⟨by omega, by omega, by omega, by omega⟩, ?_⟩
        obtain ⟨L, hLL⟩ : ∃ L, L = st.length := ⟨_, rfl⟩
        have nLK : L ≠ K := by have := lt_of_some hlK.at_; omega
        have nL1 : L ≠ X.iw := by omega
        have nL2 : L ≠ X.ib := by omega
        refine aw_loop (fun m fr st2 => ∃ (j : Nat) (acc : List Int) (gs2 : List Gt) (ic2 : Nat), j ≤ W ∧ m = W - j ∧ acc.length = j ∧
          After (zipM F x y gs1) (acc ++ ·) (zipM F (x.drop j) (y.drop j) gs2) ∧ gs1.length ≤ gs2.length ∧
          Bs X G ic2 gs2 st2 ∧ Stp X.iw ic1 st ic2 st2 ∧ Lc K [.d (.sl 1 (x.map iD)), .d (.sl 1 (y.map iD))] ic2 st2 ∧ Lo L (part acc W) ic2 st2 ∧
          fr = [.ref X.ib 0, .any, .any, .any, .any, .rs K 1 0 2 (some 28), .any, .any, .fn (.func f) [] [], .rs L 1 0 W (some 3), .any, .any, .any, .any, .any, .any, .any, .any, .any, .any, .any, .any, .any, .any, .any, .any, .any, .any, .any, .any, .any, .any, .any, .any, .any, .any, .any, .any, .any, .any, .any, .any, .any, .any, .any, .any, .any, dn W, dn j, .any, .any, .any, .any, .any, .any, .any, .any, .any, .any, .any, .any, .any, .any, .any, .any, .any, .any, .any, .any, .any, .any, .any, .any, .any, .any, .any, .any, .any, .any, .any, .any, .any, .any, .any, .any, .any, .any, .any, .any, .any, .any, .any, .any, .any, .any, .any, .any, .any, .any, .any, .any, .any, .any, .any, .any, .any, .any]) W _ ?_ ?_
        · rw [hLL]
          have := lt_of_some hs1.bo.c
          exact Wk.mask [0, 5, 8, 9, 47, 48] ⟨0, [], gs1, ic1, by omega, rfl, rfl, ⟨fun e => e, fun rs gs2 e => e⟩, Nat.le_refl _, hs1.app _, Stp.app _ _, hlK.app _, ⟨by simp, by omega⟩, rfl⟩
        rintro m fr st2 ⟨j, acc, gs2, ic2, hj, hm, hacc, heq, hgl2, hs2, hst2, hlK2, hlo, rfl⟩
        rcases Nat.lt_or_ge j W with hlt | hge
        · have hd : decide ((j : Int) < (W : Int)) = true := by simp; omega
          have e1 := getD_isD (l := x) (j := j) (by omega)
          have e2 := getD_isD (l := y) (j := j) (by omega)
          have w2 := wrapS j (by omega)
          have hxa : Lit (X.first + gs2.length) (x.getD j 0) := (hx.2 _ (getD_mem 0 (by omega))).mono (by omega)
          have hyb : Lit (X.first + gs2.length) (y.getD j 0) := (hy.2 _ (getD_mem 0 (by omega))).mono (by omega)
          rw [drop_getD 0 (by omega), drop_getD (l := y) 0 (by omega)] at heq
          generalize x.getD j 0 = a at *
          generalize y.getD j 0 = b at *
          simp only [go_sem, hd, Tryd.results51]
          refine aw_plan (.tk 19 0 <| .done) (by kernel_rfl) ?_
          simp only [go_sem, live_of hlK2.at_, objK_of hlK2.at_, List.length_map, List.length_cons, List.length_nil, e1, e2, Int.toNat_natCast, List.getD_cons_zero, List.getD_cons_succ, Int.toNat_zero, Int.toNat_one, Nat.mul_one, Nat.zero_add, Tryd.results51]
          refine ⟨⟨by omega, by omega⟩, ⟨by omega, by omega⟩, ⟨by omega, by omega⟩, ⟨by omega, by omega⟩, ac' (hF hs2 hxa hyb _ ⟨fun e => hno (heq.no (by simp only [zipM, List.headD_cons, List.tail_cons]; simp only [bnd, e, Option.bind_none])), fun r gs4 ic4 σ4 q4 l4 n4 hs4 hst4 => ?_⟩)⟩
          have hlo4 := hlo.step nL1 hst4
          have hlK4 := hlK2.step nK1 hst4
          have hset := part_cells (acc := acc) (n := W) (j := j) hacc hlt r
          have hpl : (part acc W).length = W := part_len (by omega)
          simp only [go_sem, live_of hlo4.at_, objK_of hlo4.at_, List.length_map, Int.toNat_natCast, Nat.mul_one, Nat.zero_add, hset, hpl, w2, Tryd.results51]
          refine ⟨⟨by omega, by omega⟩, hlt, Wk.mask [0, 5, 8, 9, 47, 48] ⟨W - (j + 1), by omega, j + 1, acc ++ [r], gs4, ic4, hlt, rfl, by simp [hacc], ⟨fun e => heq.no (by simp only [zipM, List.headD_cons, List.tail_cons]; simp only [bnd, q4, e, Option.bind_some, Option.bind_none]), fun rs gs8 e => ?_⟩, by omega, hs4.set (i := L) (by omega) hlo4.ne nL2 nL1 _, (hst2.trans hst4).set (i := L) (by omega) _, hlK4.set nLK _, ⟨set_same hlo4.at_, hlo4.ne⟩, rfl⟩⟩
          rw [heq.yes (r :: rs) gs8]
          · simp
          · simp only [zipM, List.headD_cons, List.tail_cons]
            simp only [bnd, q4, e, Option.bind_some, retM]
        · have hd : decide ((j : Int) < (W : Int)) = false := by simp; omega
          simp only [go_sem, hd, Tryd.results51]
          have ez := heq.yes [] gs2 (by rw [List.drop_eq_nil_of_le (by omega)]; rfl)
          rw [List.append_nil] at ez
          rw [part_full (by omega)] at hlo
          refine ret_w (a' := dL acc) (τ' := st2.set L none) ?_ ⟨_, _, Weak.refl _ _ _ _, hfin acc gs2 ic2 _ ez (by omega) (hs2.set (i := L) (by omega) hlo.ne nL2 nL1 none) ((hst1.trans hst2).set (by omega) none)⟩
          have := Weak.freeze (G := G) (n0 := σ.length) (fr := [.rs L 1 0 W (some 3)]) L 1 0 (acc.map iD) hlo.at_ (lies_ints acc)
          simp only [frzL, A.frz, List.length_map, hacc, show j = W by omega, and_self, if_true] at this
          exact this
      by_cases o8 : e.op = 8 ∨ e.op = 9 ∨ e.op = 10
      · obtain ⟨x, y, rfl, hx, hy⟩ : ∃ x y, bs = [x, y] ∧ LL W x (X.first + gs1.length) ∧ LL W y (X.first + gs1.length) := by
          rw [if_neg (by omega), if_neg (by omega), if_neg (by omega), if_neg (by omega), if_neg (by omega), decide_eq_true_eq] at hf
          obtain ⟨ka, kb, hks2⟩ := list2 (l := e.kids) (by rw [hL, Ex.arity, if_neg (by omega), if_neg (by omega), if_pos (by omega)]; rfl)
          rw [hks2] at hkl1
          simp only [Ex.kw, hks2, List.getD_cons_zero, List.getD_cons_succ] at hf
          obtain ⟨x, y, rfl, hx, hy⟩ := kl2 hkl1
          rw [hf.2.1, hW] at hx; rw [hf.2.2, hW] at hy
          exact ⟨x, y, rfl, hx, hy⟩
        have hxl := hx.1
        have hyl := hy.1
        obtain ⟨f, F, htab, hopM, hF⟩ : ∃ (f : FuncId) (F : Gm (List Int)), X.cells.getD (1 + e.op.toNat) .any = .ifc 113 (.fn (.func f) [] []) ∧ opM X.first X.lo X.ln e.op e.w.toNat e.n [x, y] = F ∧
            (∀ (R : A → St → Prop) (h : Cb X G F (fun _ _ => True) dL ic1 gs1 st R), AC Tryd.prog G f [.ref X.ib 0, dL x, dL y] st R) := by
          rcases o8 with o | o | o <;> rw [o]
          · exact ⟨72, sumM X.first x y (-1), rfl, rfl, fun R h => add_ac hs1 hx.2 hy.2 (by omega) (by omega) R ⟨h.no, fun r gs2 ic2 σ2 q l n s t => h.yes r gs2 ic2 σ2 q trivial n s t⟩⟩
          · exact ⟨74, sumM X.first x (y.map (- ·)) 1, rfl, rfl, fun R h => sub_ac hs1 hx.2 hy.2 (by omega) (by omega) R ⟨h.no, fun r gs2 ic2 σ2 q l n s t => h.yes r gs2 ic2 σ2 q trivial n s t⟩⟩
          · exact ⟨75, mulM X.first x y 0 (List.replicate x.length (-1)), rfl, rfl, fun R h => mul_ac hs1 hx.2 hy.2 (by omega) (by omega) R ⟨h.no, fun r gs2 ic2 σ2 q l n s t => h.yes r gs2 ic2 σ2 q trivial n s t⟩⟩
        rw [hopM] at hfin hno
        have hk2 : e.kids.length = 2 := by rw [← hbl]; rfl
        simp only [List.map_cons, List.map_nil] at hlK
        rw [hk2]
        simp only [go_sem, live_of hlE.at_, objK_of hlE.at_, live_of hb0, objK_of hb0, hXl, htab, Nat.mul_one, Nat.reduceEqDiff, if_true, if_false, Tryd.results51]
        refine ⟨⟨by omega, by omega⟩, by omega, ?_⟩
        refine aw_plan (.tk 10 0 <| .done) (by kernel_rfl) ?_
        simp only [go_sem, live_of hlK.at_, objK_of hlK.at_, List.length_map, List.length_cons, List.length_nil, Int.toNat_natCast, List.getD_cons_zero, List.getD_cons_succ, Int.toNat_zero, Int.toNat_one, Nat.mul_one, Nat.zero_add, Tryd.results51]
        refine ⟨⟨by omega, by omega⟩, ⟨by omega, by omega⟩, ac' (hF _ ⟨hno, fun r gs4 ic4 σ4 q4 l4 n4 hs4 hst4 => ?_⟩)⟩
        simp only [go_sem, Tryd.results51]
        exact ⟨_, _, Weak.refl _ _ _ _, hfin r gs4 ic4 σ4 q4 n4 hs4 (hst1.trans hst4)⟩
      by_cases o11 : e.op = 11 ∨ e.op = 12 ∨ e.op = 13
      · obtain ⟨x, y, rfl, hx, hy, hxy, hxl⟩ : ∃ x y, bs = [x, y] ∧ LitL (X.first + gs1.length) x ∧ LitL (X.first + gs1.length) y ∧ x.length = y.length ∧ x.length ≤ 8 := by
          rw [if_neg (by omega), if_neg (by omega), if_neg (by omega), if_pos (by omega), decide_eq_true_eq] at hf
          obtain ⟨ka, kb, hks2⟩ := list2 (l := e.kids) (by rw [hL, Ex.arity, if_neg (by omega), if_neg (by omega), if_pos (by omega)]; rfl)
          have hka := hkd ka (by rw [hks2]; simp)
          have hkaw : ka.w ≤ 8 := by
            cases l with
            | zero => simp [Ex.deep] at hka
            | succ l =>
              simp only [Ex.deep, Bool.and_eq_true, Ex.fits, decide_eq_true_eq] at hka
              exact hka.1.1.2.2
          rw [hks2] at hkl1
          simp only [Ex.kw, hks2, List.getD_cons_zero, List.getD_cons_succ] at hf
          obtain ⟨x, y, rfl, hx, hy⟩ := kl2 hkl1
          refine ⟨x, y, rfl, hx.2, hy.2, by rw [hx.1, hy.1, hf.2.2], by rw [hx.1]; omega⟩
        obtain ⟨f, F, htab, hopM, hF⟩ : ∃ (f : FuncId) (F : Gm Int), X.cells.getD (1 + e.op.toNat) .any = .ifc 116 (.fn (.func f) [] []) ∧ opM X.first X.lo X.ln e.op e.w.toNat e.n [x, y] = bnd F (fun r => retM [r]) ∧
            (∀ (R : A → St → Prop) (h : Cb X G F LitR di ic1 gs1 st R), AC Tryd.prog G f [.ref X.ib 0, dL x, dL y] st R) := by
          rcases o11 with o | o | o <;> rw [o]
          · exact ⟨76, eqM X.first x y 1, rfl, rfl, fun R h => eq_ac hs1 hx hy hxy (by omega) R h⟩
          · exact ⟨77, lessM X.first x y (-1), rfl, rfl, fun R h => less_ac hs1 hx hy hxy (by omega) R h⟩
          · exact ⟨78, bnd (lessM X.first y x (-1)) fun r => retM (-r), rfl, by rw [bnd_assoc]; rfl, fun R h => le_ac hs1 hx hy hxy (by omega) R h⟩
        rw [hopM] at hfin hno
        have hk2 : e.kids.length = 2 := by rw [← hbl]; rfl
        simp only [List.map_cons, List.map_nil] at hlK
        rw [hk2]
        simp only [go_sem, live_of hlE.at_, objK_of hlE.at_, live_of hb0, objK_of hb0, hXl, htab, Nat.mul_one, Nat.reduceEqDiff, if_true, if_false, Tryd.results51]
        refine ⟨⟨by omega, by omega⟩, by omega, ?_⟩
        refine aw_plan (.tk 11 0 <| .done) (by kernel_rfl) ?_
        simp only [go_sem, live_of hlK.at_, objK_of hlK.at_, List.length_map, List.length_cons, List.length_nil, Int.toNat_natCast, List.getD_cons_zero, List.getD_cons_succ, Int.toNat_zero, Int.toNat_one, Nat.mul_one, Nat.zero_add, Tryd.results51]
        refine ⟨⟨by omega, by omega⟩, ⟨by omega, by omega⟩, ac' (hF _ ⟨fun e => hno (by simp only [bnd, e, Option.bind_none]), fun r gs4 ic4 σ4 q4 l4 n4 hs4 hst4 => ?_⟩)⟩
        simp only [go_sem, Tryd.results51]
        refine ret_w (a' := dL [r]) (τ' := σ4 ++ [none]) ?_ ⟨_, _, Weak.refl _ _ _ _, hfin [r] gs4 ic4 _ (by simp only [bnd, q4, Option.bind_some, retM]) n4 (hs4.app _) ((hst1.trans hst4).trans (Stp.app _ _))⟩
        have := Weak.freeze (G := G) (n0 := σ.length) (fr := [.rs σ4.length 1 0 1 (some 3)]) (σ := σ4 ++ [some (.cells [.d (iD r)])]) σ4.length 1 0 [iD r] (cs := [.d (iD r)]) (by simp) (lies_ints [r])
        simp only [frzL, A.frz, List.length_cons, List.length_nil, and_self, if_true, Nat.zero_add] at this
        rw [show (σ4 ++ [some (Ob.cells [A.d (iD r)])]).set σ4.length none = σ4 ++ [none] by simp] at this
        exact this
      have hg : ∃ f : FuncId, X.cells.getD (1 + e.op.toNat) .any = .ifc 108 (.fn (.func f) [] []) ∧ ∀ (st' : St) (hs' : Bs X G ic1 gs1 st') (R : A → St → Prop) (h : Cb X G (opM X.first X.lo X.ln e.op e.w.toNat e.n bs) (fun _ _ => True) dL ic1 gs1 st' R),
          AC Tryd.prog G f [.ref X.ib 0, .d (.agg [iD e.op, iD (W : Nat), iD e.n, .sl 4 (e.kids.map Ex.d)]), .d (llD bs)] st' R := by
        have hWn : e.w.toNat = W := by omega
        rw [hWn]
        by_cases o1 : e.op = 1
        · rw [if_pos o1, decide_eq_true_eq] at hf
          have hlt : e.n < 256 := by
            have h2 : ((2 : Int) ^ e.w.toNat) = ((2 ^ e.w.toNat : Nat) : Int) := by simp
            have := pow_le8 (w := e.w.toNat) (by omega)
            omega
          refine ⟨64, by rw [o1]; rfl, fun st' hs' R h => constb_ac ⟨hf.1, hlt⟩ (by omega) _ _ _ (h.yes _ gs1 ic1 st' (by rw [o1]; rfl) trivial (Nat.le_refl _) hs' (Stp.refl _ _ _))⟩
        rw [if_neg o1] at hf
        by_cases o2 : e.op = 2
        · rw [if_pos (.inl o2), decide_eq_true_eq] at hf
          have hlv : e.lvs = [e] := Ex.lvs_leaf (List.eq_nil_of_length_eq_zero (by rw [hL, o2]; rfl))
          have h1 := hlay.n e (by rw [hlv]; simp) o2
          have h2 := hlay.nl e (by rw [hlv]; simp) o2
          refine ⟨65, by rw [o2]; rfl, fun st' hs' R h => cellb_ac hs' ⟨hf.1, h2⟩ ⟨h1.1, by omega⟩ (by omega) _ _ (h.yes _ gs1 ic1 st' (by rw [o2]; rfl) trivial (Nat.le_refl _) hs' (Stp.refl _ _ _))⟩
        by_cases o3 : e.op = 3
        · rw [if_pos (.inr o3), decide_eq_true_eq] at hf
          have hlv : e.lvs = [e] := Ex.lvs_leaf (List.eq_nil_of_length_eq_zero (by rw [hL, o3]; rfl))
          have h1 := hlay.o e (by rw [hlv]; simp) o3
          have h2 := hlay.ol e (by rw [hlv]; simp) o3
          refine ⟨67, by rw [o3]; rfl, fun st' hs' R h => oldb_ac hs' ⟨hf.1, h2⟩ ⟨h1.1, by omega⟩ (by omega) _ _ (h.yes _ gs1 ic1 st' (by rw [o3]; rfl) trivial (Nat.le_refl _) hs' (Stp.refl _ _ _))⟩
        rw [if_neg (by omega)] at hf
        by_cases o4 : e.op = 4
        · rw [if_pos o4, decide_eq_true_eq] at hf
          obtain ⟨ka, hks2⟩ := list1 (l := e.kids) (by rw [hL, o4]; rfl)
          rw [hks2] at hkl1
          simp only [Ex.kw, hks2, List.getD_cons_zero] at hf
          obtain ⟨x, rfl, hx⟩ := kl1 hkl1
          rw [hf.2, hWn] at hx
          have hxl := hx.1
          refine ⟨68, by rw [o4]; rfl, fun st' hs' R h => notb_ac hx.2 h8 (by omega) _ _ (h.yes _ gs1 ic1 st' (by rw [o4]; rfl) trivial (Nat.le_refl _) hs' (Stp.refl _ _ _))⟩
        have o14 : e.op = 14 := by omega
        rw [if_neg o4, if_neg (by omega), if_pos o14, decide_eq_true_eq] at hf
        obtain ⟨ka, kb, kc, hks2⟩ := list3 (l := e.kids) (by rw [hL, o14]; rfl)
        rw [hks2] at hkl1
        simp only [Ex.kw, hks2, List.getD_cons_zero, List.getD_cons_succ] at hf
        obtain ⟨x, y, z, rfl, hx, hy, hz⟩ := kl3 hkl1
        obtain ⟨f1, f2, f3, f4⟩ := hf
        rw [f2] at hx; rw [f3, hWn] at hy; rw [f4, hWn] at hz
        obtain ⟨c0, rfl⟩ := list1 hx.1
        refine ⟨79, by rw [o14]; rfl, fun st' hs' R h => ite_ac hs' hx.2.head hy.2 hz.2 hy.1 hz.1 (by omega) R ⟨fun e => h.no (by rw [o14]; exact e), fun r gs2 ic2 σ2 q1 _ q3 q4 q5 => h.yes r gs2 ic2 σ2 (by rw [o14]; exact q1) trivial q3 q4 q5⟩⟩
      obtain ⟨f, htab, hF⟩ := hg
      simp only [go_sem, live_of hlE.at_, objK_of hlE.at_, live_of hb0, objK_of hb0, hXl, htab, Nat.mul_one, Nat.reduceEqDiff, if_true, if_false, Tryd.results51]
      refine ⟨⟨by omega, by omega⟩, by omega, ?_⟩
      rw [hW]
      refine ac' (ac_weak (Weak.freeze K 1 0 (bs.map isD) hlK.at_ (lies_map isD (fun _ => ⟨rfl, rfl⟩) bs)) ?_)
      simp only [frzL, A.frz, List.length_map, hbl, and_self, if_true]
      have hsK := hs1.set (i := K) (by omega) hlK.ne nK2 nK1 none
      refine hF _ hsK _ ⟨hno, fun r gs4 ic4 σ4 q4 _ n4 hs4 hst4 => ?_⟩
      exact ⟨_, _, Weak.refl _ _ _ _, hfin r gs4 ic4 σ4 q4 n4 hs4 ((hst1.set (by omega) none).trans hst4)⟩
end
end Go.Proofs.YtkjlefahpdconaaDoor
end PartB9

section PartB10
/- The table of operators; translating a condition. -/
set_option linter.unusedSimpArgs false
set_option linter.unusedVariables false
set_option maxRecDepth 100000
namespace Go.Proofs.YtkjlefahpdconaaDoor
open Go Go.Ab

theorem operators_ac (σ : St) (G : Glob) (R : A → St → Prop) (h : R (.agg tabA) σ) : AC Tryd.prog G 50 [] σ R := by
  refine ac_enter' mixed Tryd.func50 rfl Tryd.ntmps50 (by simp only [go_sem]) fun hbd => ?_
  simp only [List.length_cons, List.length_nil, Nat.reduceAdd, Nat.reduceSub, List.replicate_succ, List.replicate_zero, List.cons_append, List.nil_append]
  simp only [go_sem, Nat.reduceMul, Nat.reduceAdd, Nat.reduceLeDiff, List.length_cons, List.length_nil, List.take, List.drop, and_self, if_true, Tryd.results50]
  exact ret_bd hbd rfl h
theorem rec_ac {ir ie : Nat} (hne : ir ≠ ie) {x y : A} {rv : Option A} (hrv : rv = none ∨ rv = some excA) (σ : St) (G : Glob) (hr : σ[ir]? = some (some (.cells [x]))) (he : σ[ie]? = some (some (.cells [y]))) (R : St → Prop) 
    (h0 : rv = none → R σ) (h1 : rv = some excA → ∀ l, R ((σ.set ir (some (.cells [di 0]))).set ie (some (.cells [di 2])) ++ l)) : AD Tryd.prog G 49 [.ref ir 0, .ref ie 0] rv σ R := by
  refine ad_rec mixed (tx := ⟨false, [], true⟩) Tryd.func49 rfl Tryd.ntmps49 (by simp only [go_sem]) rfl fun hbd => ?_
  simp only [List.length_cons, List.length_nil, Nat.reduceAdd, Nat.reduceSub, List.replicate_succ, List.replicate_zero, List.cons_append, List.nil_append]
  refine awS_at rfl ?_
  rcases hrv with rfl | rfl
  · simp only [Option.getD_none, go_sem]
    exact ⟨_, _, Weak.refl _ _ _ _, h0 rfl⟩
  · have hlr := lt_of_some hr
    have hle := lt_of_some he
    have he2 : (σ.set ir (some (.cells [di 0])))[ie]? = some (some (.cells [y])) := by rw [set_other hne]; exact he
    have hle2 : ie < (σ.set ir (some (.cells [di 0]))).length := by rw [List.length_set]; exact hle
    simp only [Option.getD_some, go_sem, objK_old hr, live_old hr, set_old hlr, objK_old he2, live_old he2, set_old hle2]
    exact ⟨_, _, Weak.refl _ _ _ _, h1 rfl _⟩
def Gd.st : Gd → TypeId | wr => 66 | va _ => 73
theorem meth_begin (K : Gd) : methT Tryd.prog K.tid "relyguard/encode.begin" = some (105, .fld K.st 0) := by
  cases K <;> simp only [Gd.tid, Gd.st, go_sem]
def Gd.rest (first : Nat) : Gd → Nat → List A
  | wr, ic => [.rs ic 1 0 0 (some 28)]
  | va vs, ic => [.rs ic 1 0 vs.length (some 4)]
theorem fld_begin (K : Gd) : fld Tryd.prog K.st 0 = some (0, 64) := by
  cases K <;> simp only [Gd.st, go_sem]
set_option maxHeartbeats 16000000 in
theorem translate_ac (K : Gd) (cs : List Cel) (c : Cnd) (hok : c.Ok) (E : Enc cs c.hyp c.goal) (hK : K.ok (firstV cs c.hyp c.goal)) {iw ic : Nat} (hne : iw ≠ ic) {x y : A} (σ : St) (hw : σ[iw]? = some (some (.cells (x :: y :: K.rest (firstV cs c.hyp c.goal) ic)))) (hc : σ[ic]? = some (some (.cells (K.oc (firstV cs c.hyp c.goal) []))))
    (G : Glob) (hG : G.g 0 = some masksD) (R : A → St → Prop)
    (h1 : ∀ root gs' ic' σ', transM cs c.hyp c.goal [] = some (root, gs') → Bo K (firstV cs c.hyp c.goal) iw ic' gs' σ' → Stp iw ic σ ic' σ' → R (.tup [di root, di 0]) σ')
    (h2 : transM cs c.hyp c.goal [] = none → ∀ σ', Keeps [iw, ic] σ σ' → R (.tup [di 0, di 2]) σ') : AC Tryd.prog G 33 [.d (celsD cs), .d (cndD c), .ifc K.tid (.ref iw 0)] σ R := by
  obtain ⟨σ1, hσ1⟩ : ∃ σ1, σ1 = σ ++ [some (.cells [.d (.str c.id), .d (iD c.kind), .d (iD c.mod), .d (iD c.thread), .d (iD c.item), .d (iD c.other), .d (iD c.hyp.op), .d (iD c.hyp.w), .d (iD c.hyp.n), .d (.sl 4 (c.hyp.kids.map Ex.d)), .d (iD c.goal.op), .d (iD c.goal.w), .d (iD c.goal.n), .d (.sl 4 (c.goal.kids.map Ex.d))]), some (.cells [di 0]), some (.cells [di 0])] := ⟨_, rfl⟩
  refine ac_enterD mixed (fun a s => a = excA ∧ Keeps [iw, ic] σ1 s ∧ transM cs c.hyp c.goal [] = none) (tx := ⟨false, [], true⟩) Tryd.func33 rfl Tryd.ntmps33 (by simp only [go_sem]) rfl rfl fun hbd => ?_
  simp only [List.length_cons, List.length_nil, Nat.reduceAdd, Nat.reduceSub, List.replicate_succ, List.replicate_zero, List.cons_append, List.nil_append]
  refine awD_pre rfl ?_
  simp only [cndD, go_sem]
  refine awD_at rfl ?_
  simp only [go_sem, Tryd.results33]
  have hiwl := lt_of_some hw
  have hicl := lt_of_some hc
  refine ⟨?_, ?_⟩
  · rintro a s ⟨rfl, hk, htn⟩
    have hl1 : σ1.length = σ.length + 3 := by rw [hσ1]; simp
    have g1 : s[σ.length + 1]? = some (some (.cells [di 0])) := by
      rw [hk.2 _ (by omega) (by simp only [List.mem_cons, List.not_mem_nil, or_false, not_or]; omega), hσ1]; simp
    have g2 : s[σ.length + 2]? = some (some (.cells [di 0])) := by
      rw [hk.2 _ (by omega) (by simp only [List.mem_cons, List.not_mem_nil, or_false, not_or]; omega), hσ1]; simp
    have hkl := hk.1
    refine rec_ac (by omega) (.inr rfl) s _ g1 g2 _ (fun h => by cases h) fun _ l => ?_
    have e1 : ((s.set (σ.length + 1) (some (.cells [di 0]))).set (σ.length + 2) (some (.cells [di 2])) ++ l)[σ.length + 1]? = some (some (.cells [di 0])) := by
      rw [List.getElem?_append_left (by simp; exact lt_of_some g1), set_other (by omega), set_same g1]
    have e2 : ((s.set (σ.length + 1) (some (.cells [di 0]))).set (σ.length + 2) (some (.cells [di 2])) ++ l)[σ.length + 2]? = some (some (.cells [di 2])) := by
      rw [List.getElem?_append_left (by simp; exact lt_of_some g2)]
      exact set_same (x := some (.cells [di 0])) (by rw [set_other (by omega)]; exact g2)
    simp only [go_sem, objK_of e1, live_of e1, objK_of e2, live_of e2, Tryd.results33]
    refine ⟨_, _, Weak.refl _ _ _ _, h2 htn _ ⟨by simp; omega, fun id hid hx => ?_⟩⟩
    simp only [List.mem_cons, List.not_mem_nil, or_false, not_or] at hx
    have := hk.1
    rw [List.getElem?_append_left (by simp; omega), set_other (by omega), set_other (by omega), hk.2 id (by omega) (by simp only [List.mem_cons, List.not_mem_nil, or_false, not_or]; exact hx), hσ1, List.getElem?_append_left hid]
  have b3 : decide (iw < σ.length + 3) = true := by simp; omega
  generalize hGe : (Glob.mk G.g fun a s => a = excA ∧ Keeps [iw, ic] σ1 s ∧ transM cs c.hyp c.goal [] = none) = G'
  have hG2 : G'.g 0 = some masksD := by rw [← hGe]; exact hG
  have hpan : transM cs c.hyp c.goal [] = none → ∀ s, Keeps [iw, ic] σ1 s → G'.pan excA s := by rw [← hGe]; exact fun h1 s h2 => ⟨rfl, h2, h1⟩
  have hσ1l : σ1.length = σ.length + 3 := by rw [hσ1]; simp
  refine ac' (operators_ac _ _ _ ?_)
  simp only [tabA, go_sem, b3, Tryd.results33]
  refine ac' (layout_ac cs c hok E _ _ hG2 _ ?_)
  simp only [dL, isD, cndD, go_sem, Tryd.results33]
  obtain ⟨S0, hS0⟩ : ∃ S0, S0 = σ1 ++ [some (.cells (.ifc K.tid (.ref iw 0) :: (tabA ++ [dL (lO cs c.hyp c.goal), dL (lN cs c.hyp c.goal)])))] := ⟨_, rfl⟩
  have hS0' := hS0
  rw [hσ1, List.append_assoc] at hS0'
  simp only [List.cons_append, List.nil_append, tabA, dL, isD] at hS0'
  rw [← hS0']
  have hS0l : S0.length = σ.length + 4 := by rw [hS0]; simp [hσ1l]
  have g0 : ∀ id, id < σ.length → S0[id]? = σ[id]? := fun id hid => by rw [hS0, List.getElem?_append_left (by omega), hσ1, List.getElem?_append_left hid]
  have gw : S0[iw]? = some (some (.cells (x :: y :: K.rest (firstV cs c.hyp c.goal) ic))) := by rw [g0 iw hiwl]; exact hw
  have gc : S0[ic]? = some (some (.cells (K.oc (firstV cs c.hyp c.goal) []))) := by rw [g0 ic hicl]; exact hc
  simp only [meth_begin, go_sem, fld_begin, live_of gw]
  have hfle := E.first_le
  refine ac' (begin_ac (by omega) S0 gw _ _ fun r0 => ?_)
  obtain ⟨S1, hS1⟩ : ∃ S1, S1 = S0.set iw (some (.cells (dn (firstV cs c.hyp c.goal) :: di 2 :: K.rest (firstV cs c.hyp c.goal) ic))) := ⟨_, rfl⟩
  rw [← hS1]
  have hS1l : S1.length = σ.length + 4 := by rw [hS1, List.length_set, hS0l]
  have g1 : ∀ id, id ≠ iw → S1[id]? = S0[id]? := fun id hid => by rw [hS1, set_other (Ne.symm hid)]
  obtain ⟨X, hX⟩ : ∃ X : Bx, X = ⟨K, firstV cs c.hyp c.goal, lO cs c.hyp c.goal, lN cs c.hyp c.goal, σ.length + 3, iw, ic, σ1, transM cs c.hyp c.goal [] = none⟩ := ⟨_, rfl⟩
  have hs1 : Bs X G' ic [] S1 := by
    subst hX
    refine ⟨⟨?_, ?_, hne⟩, ?_, ?_, ?_, E.good, hK, ⟨.inl rfl, by show σ1.length ≤ S1.length; omega, fun id hid hx => ?_⟩, hpan⟩
    · rw [hS1, set_same gw]
      cases K <;> rfl
    · rw [g1 ic (Ne.symm hne)]; exact gc
    · show S1[σ.length + 3]? = _
      rw [g1 _ (by omega), hS0, List.getElem?_append_right (by omega), hσ1l]; simp; rfl
    · show σ.length + 3 ≠ iw
      omega
    · show σ.length + 3 ≠ ic
      omega
    · simp only [List.mem_cons, List.not_mem_nil, or_false, not_or] at hx
      rw [g1 id hx.1, hS0, List.getElem?_append_left (by exact hid)]
  have hXf : X.first = firstV cs c.hyp c.goal := by rw [hX]
  have hXo : X.lo = lO cs c.hyp c.goal := by rw [hX]
  have hXn : X.ln = lN cs c.hyp c.goal := by rw [hX]
  have hXb : X.ib = σ.length + 3 := by rw [hX]
  have hXw : X.iw = iw := by rw [hX]
  have hXQ : X.Q ↔ transM cs c.hyp c.goal [] = none := by rw [hX]
  have hlay : X.Lay (c.hyp.lvs ++ c.goal.lvs) := by
    refine ⟨by rw [hXf, hXo]; exact E.lay3, by rw [hXf, hXn]; exact E.lay2, fun e he ho => ?_, fun e he ho => ?_⟩
    · have := (E.leaf he (.inr ho)); have h4 := E.placedO.len; rw [occB_len] at h4; rw [hXo]; omega
    · have := (E.leaf he (.inl ho)); have h4 := E.placedN.len; rw [occB_len] at h4; rw [hXn]; omega
  have lc : Lc σ.length [.d (.str c.id), .d (iD c.kind), .d (iD c.mod), .d (iD c.thread), .d (iD c.item), .d (iD c.other), .d (iD c.hyp.op), .d (iD c.hyp.w), .d (iD c.hyp.n), .d (.sl 4 (c.hyp.kids.map Ex.d)), .d (iD c.goal.op), .d (iD c.goal.w), .d (iD c.goal.n), .d (.sl 4 (c.goal.kids.map Ex.d))] ic S1 :=
    ⟨by rw [g1 _ (by omega), hS0, List.getElem?_append_left (by omega), hσ1]; simp, by omega⟩
  have lr : Lc (σ.length + 1) [di 0] ic S1 := ⟨by rw [g1 _ (by omega), hS0, List.getElem?_append_left (by omega), hσ1]; simp, by omega⟩
  have le : Lc (σ.length + 2) [di 0] ic S1 := ⟨by rw [g1 _ (by omega), hS0, List.getElem?_append_left (by omega), hσ1]; simp, by omega⟩
  have hst1 : Stp iw ic σ ic S1 := ⟨.inl rfl, by omega, fun id hid hx => by
    simp only [List.mem_cons, List.not_mem_nil, or_false, not_or] at hx
    rw [g1 id hx.1, g0 id hid]⟩
  clear hS0 hS0' hS1 g0 g1 gw gc hpan
  simp only [go_sem, live_of lc.at_, objK_of lc.at_, Tryd.results33]
  rw [← Ex.d_eq, ← hXb]
  have nh : ∀ gs, bitsM X.first X.lo X.ln c.hyp gs = bitsM (firstV cs c.hyp c.goal) (lO cs c.hyp c.goal) (lN cs c.hyp c.goal) c.hyp gs := fun gs => by rw [hXf, hXo, hXn]
  have ng : ∀ gs, bitsM X.first X.lo X.ln c.goal gs = bitsM (firstV cs c.hyp c.goal) (lO cs c.hyp c.goal) (lN cs c.hyp c.goal) c.goal gs := fun gs => by rw [hXf, hXo, hXn]
  refine ac' (bits_ac 40 c.hyp hok.hyp (formed_deep E.hf) (hlay.sub fun n hn => List.mem_append_left _ hn) hs1 _ ⟨fun e => hXQ.2 (by simp only [transM, rootM, bnd]; rw [← nh, e]; rfl), fun xs gs2 ic2 σ2 q2 l2 n2 hs2 hst2 => ?_⟩)
  rw [hXw] at hst2
  obtain ⟨x0, rfl⟩ := list1 (l := xs) (by rw [l2.1, E.hw]; rfl)
  have lc2 := lc.step (by omega) hst2
  have lr2 := lr.step (by omega) hst2
  have le2 := le.step (by omega) hst2
  simp only [dL, isD, List.map_cons, List.map_nil, go_sem, live_of lc2.at_, objK_of lc2.at_, List.length_cons, List.length_nil, List.getD_cons_zero, Int.toNat_zero, Tryd.results33]
  rw [← Ex.d_eq]
  refine ⟨⟨by omega, by omega⟩, ac' (bits_ac 40 c.goal hok.goal (formed_deep E.gf) (hlay.sub fun n hn => List.mem_append_right _ hn) hs2 _ ⟨fun e => hXQ.2 (by simp only [transM, rootM, bnd]; rw [← nh, q2]; simp only [Option.bind_some]; rw [← ng, e]; rfl), fun ys gs3 ic3 σ3 q3 l3 n3 hs3 hst3 => ?_⟩)⟩
  rw [hXw] at hst3
  obtain ⟨y0, rfl⟩ := list1 (l := ys) (by rw [l3.1, E.gw]; rfl)
  have lr3 := lr2.step (by omega) hst3
  have le3 := le2.step (by omega) hst3
  have hy0 := l3.2.head
  have h83 := hs3.small
  have w1 : IntKind.i64.wrap (0 - y0) = -y0 := by have := hy0.2; rw [wrap64_id _ (by omega) (by omega)]; omega
  simp only [dL, isD, List.map_cons, List.map_nil, go_sem, w1, List.length_cons, List.length_nil, List.getD_cons_zero, Int.toNat_zero, Tryd.results33]
  have ht : ∀ p, andM X.first x0 (-y0) gs3 = p → transM cs c.hyp c.goal [] = p := fun p hp => by
    rw [← hp]
    simp only [transM, rootM, bnd]
    rw [← nh, q2]; simp only [Option.bind_some]
    rw [← ng, q3]; simp only [Option.bind_some, List.headD_cons]
    rw [hXf]
  refine ⟨⟨by omega, by omega⟩, ac' (and_ac hs3 (l2.2.head.mono n3) hy0.neg _ ⟨fun e => hXQ.2 (ht _ e), fun r gs4 ic4 σ4 q4 l4 n4 hs4 hst4 => ?_⟩)⟩
  rw [hXw] at hst4
  have lr4 := lr3.step (by omega) hst4
  have le4 := le3.step (by omega) hst4
  have le5 : (σ4.set (σ.length + 1) (some (.cells [di r])))[σ.length + 2]? = some (some (.cells [di 0])) := by rw [set_other (by omega)]; exact le4.at_
  simp only [go_sem, live_of lr4.at_, objK_of lr4.at_, live_of le5, objK_of le5, Tryd.results33]
  have g1 : ((σ4.set (σ.length + 1) (some (.cells [di r]))).set (σ.length + 2) (some (.cells [di 0])))[σ.length + 1]? = some (some (.cells [di r])) := by rw [set_other (by omega), set_same lr4.at_]
  have g2 : ((σ4.set (σ.length + 1) (some (.cells [di r]))).set (σ.length + 2) (some (.cells [di 0])))[σ.length + 2]? = some (some (.cells [di 0])) := set_same le5
  refine rec_ac (by omega) (.inl rfl) _ _ g1 g2 _ (fun _ => ?_) (fun h => by cases h)
  simp only [go_sem, live_of g1, objK_of g1, live_of g2, objK_of g2, Tryd.results33]
  have hsT := ((hst1.trans hst2).trans hst3).trans hst4
  have hB := hs4.bo
  rw [hXf, hXw] at hB
  have hXK : X.K = K := by rw [hX]
  rw [hXK] at hB
  have n1 : σ.length + 1 ≠ ic4 := lr4.ne
  have n2 : σ.length + 2 ≠ ic4 := le4.ne
  exact ⟨_, _, Weak.refl _ _ _ _, h1 r gs4 ic4 _ (ht _ q4) ⟨by rw [set_other (by omega), set_other (by omega)]; exact hB.w, by rw [set_other n2, set_other n1]; exact hB.c, hB.ne⟩ ((hsT.set (by omega) _).set (by omega) _)⟩
end Go.Proofs.YtkjlefahpdconaaDoor
end PartB10

section PartB11
/- Negation. -/
set_option linter.unusedSimpArgs false
set_option linter.unusedVariables false
set_option maxRecDepth 100000
namespace Go.Proofs.YtkjlefahpdconaaDoor
open Go Go.Ab

/-- An end: what was there when the function began is as it was. -/
theorem ret_pre {G : Glob} {σ τ : St} {x : A} {R : A → St → Prop} (hbd : Bd σ.length σ) (hx : x.bd σ.length = true) (hl : σ.length ≤ τ.length) (hg : ∀ id, id < σ.length → τ[id]? = σ[id]?) (h : R x σ) : ∃ r σ', Weak G σ.length [x] τ [r] σ' ∧ R r σ' := by
  have e : τ = σ ++ τ.drop σ.length := by
    apply List.ext_getElem?
    intro i
    rcases Nat.lt_or_ge i σ.length with hi | hi
    · rw [List.getElem?_append_left hi, hg i hi]
    · rw [List.getElem?_append_right hi, List.getElem?_drop]; congr 1; omega
  rw [e]
  exact ret_bd hbd hx h
theorem Weak.freezeIn' {G : Glob} {n0 : Nat} {fr : Fr} {σ l : St} (j i sz off : Nat) (xs : List D) {cs ds : List A} (hf : frzL (σ.length + j) sz off xs fr = fr) (hj : l[j]? = some (some (.cells cs))) (hl : Lies cs sz off xs) (hi : l[i]? = some (some (.cells ds))) (hij : j ≠ i) :
    Weak G n0 fr (σ ++ l) fr (σ ++ (l.set j none).set i (some (.cells (frzL (σ.length + j) sz off xs ds)))) := by
  have := Weak.freezeIn (G := G) (n0 := n0) (fr := fr) (σ := σ) (l := l) j i sz off xs hj hl hi hij
  rwa [hf] at this
def negR (cs : List Cel) (c : Cnd) : Cnf × Int := match transM cs c.hyp c.goal [] with
  | some p => (negF (firstV cs c.hyp c.goal) p, 0)
  | none => (⟨0, []⟩, 2)
set_option maxHeartbeats 16000000 in
theorem neg_ac (cs : List Cel) (c : Cnd) (hok : c.Ok) (he : encR cs c = true) (σ : St) (G : Glob) (hG : G.g 0 = some masksD) (R : A → St → Prop) (h : R (.tup [.d (cnfD (negR cs c).1), di (negR cs c).2]) σ) : AC Tryd.prog G 11 [.d (celsD cs), .d (cndD c)] σ R := by
  have E := enc_of he
  refine ac_enter' mixed Tryd.func11 rfl Tryd.ntmps11 (by simp only [go_sem]) fun hbd => ?_
  simp only [List.length_cons, List.length_nil, Nat.reduceAdd, Nat.reduceSub, List.replicate_succ, List.replicate_zero, List.cons_append, List.nil_append]
  simp only [cndD, go_sem, Tryd.results11]
  refine ac' (encodable_ac cs c hok he _ _ hG _ ?_)
  simp only [cndD, go_sem, Tryd.results11]
  refine ac' (ac_weak (Weak.emptyIn 2 2 1 (some 28) rfl rfl) ?_)
  simp only [List.set_cons_zero, List.set_cons_succ, List.length_cons, List.length_nil, List.cons_append, List.nil_append]
  obtain ⟨S, hS⟩ : ∃ S, S = σ ++ [some (.cells [.d (.str c.id), .d (iD c.kind), .d (iD c.mod), .d (iD c.thread), .d (iD c.item), .d (iD c.other), .d (iD c.hyp.op), .d (iD c.hyp.w), .d (iD c.hyp.n), .d (.sl 4 (c.hyp.kids.map Ex.d)), .d (iD c.goal.op), .d (iD c.goal.w), .d (iD c.goal.n), .d (.sl 4 (c.goal.kids.map Ex.d))]), some (.cells [di 0, .d .nils]), some (.cells [di 0, di 0, .rs (σ.length + 3) 1 0 0 (some 28)]), some (.cells [])] := ⟨_, rfl⟩
  have hSl : S.length = σ.length + 4 := by rw [hS]; simp
  refine translate_ac .wr cs c hok E trivial (iw := σ.length + 2) (ic := σ.length + 3) (by omega) _ (x := di 0) (y := di 0) (by simp [Gd.rest]) (by simp [Gd.oc, clsG]) G hG _ ?_ ?_
  · intro root gs ic' τ ht hB hst
    have hneg : negR cs c = (negF (firstV cs c.hyp c.goal) (root, gs), 0) := by rw [negR, ht]
    rw [hneg] at h
    have hgood := (E.tr ht).good
    obtain ⟨hw, hc, hne⟩ := hB
    simp only [Gd.ow, Gd.oc] at hw hc
    have hcost := clsG_len gs (firstV cs c.hyp c.goal)
    have hfit := hgood.fit.2
    have hl0 := hst.keep.1
    simp only [List.length_append, List.length_cons, List.length_nil] at hl0
    have hic : ic' ≠ σ.length + 1 := by
      rcases hst.at' with e | e
      · omega
      · simp only [List.length_append, List.length_cons, List.length_nil] at e; omega
    have hres : τ[σ.length + 1]? = some (some (.cells [di 0, .d .nils])) := by
      rw [hst.keep.2 _ (by simp) (by simp only [List.mem_cons, List.not_mem_nil, or_false, not_or]; omega)]; simp
    have hpre : ∀ id, id < σ.length → τ[id]? = σ[id]? := fun id hid => by
      rw [hst.keep.2 _ (by simp; omega) (by simp only [List.mem_cons, List.not_mem_nil, or_false, not_or]; omega), List.getElem?_append_left hid]
    have hwl := lt_of_some hw
    have hcl := lt_of_some hc
    have hrl := lt_of_some hres
    clear hst
    simp only [go_sem, live_of hw, objK_of hw, live_of hc, objK_of hc, live_old hw, objK_old hw, live_old hc, objK_old hc, Int.reduceBNe, List.length_map, Tryd.results11]
    obtain ⟨cl, hcl'⟩ : ∃ cl, clsG (firstV cs c.hyp c.goal) gs = cl := ⟨_, rfl⟩
    rw [hcl'] at hw hc hcost ⊢
    generalize firstV cs c.hyp c.goal = first at *
    refine ⟨⟨by omega, by simp only [maxLen]; omega, by omega⟩, ?_⟩
    refine aw_plan (.take 0 <| .tk 2 5 <| .alt 1 (.alt 2 (.alt 3 (.alt 4 (.tk 6 7 <| .done) <| .alt 7 (.alt 4 (.tk 5 8 <| .done) <| .alt 8 (.alt 4 (.tk 4 9 <| .done) <| .alt 9 (.take 4 <| .tk 3 10 <| .done) <| .stop) <| .stop) <| .stop) <| .alt 7 (.alt 3 (.alt 4 (.tk 5 8 <| .done) <| .alt 8 (.alt 4 (.tk 4 9 <| .done) <| .alt 9 (.take 4 <| .tk 3 10 <| .done) <| .stop) <| .stop) <| .alt 8 (.alt 3 (.alt 4 (.tk 4 9 <| .done) <| .alt 9 (.take 4 <| .tk 3 10 <| .done) <| .stop) <| .alt 9 (.tk 2 3 <| .tk 3 10 <| .done) <| .stop) <| .stop) <| .stop) <| .alt 7 (.alt 2 (.alt 3 (.alt 4 (.tk 5 8 <| .done) <| .alt 8 (.alt 4 (.tk 4 9 <| .done) <| .alt 9 (.take 4 <| .tk 3 10 <| .done) <| .stop) <| .stop) <| .alt 8 (.alt 3 (.alt 4 (.tk 4 9 <| .done) <| .alt 9 (.take 4 <| .tk 3 10 <| .done) <| .stop) <| .alt 9 (.tk 2 3 <| .tk 3 10 <| .done) <| .stop) <| .stop) <| .alt 8 (.alt 2 (.alt 3 (.alt 4 (.tk 4 9 <| .done) <| .alt 9 (.take 4 <| .tk 3 10 <| .done) <| .stop) <| .alt 9 (.tk 2 3 <| .tk 3 10 <| .done) <| .stop) <| .alt 9 (.tk 3 2 <| .tk 3 10 <| .done) <| .stop) <| .stop) <| .stop) <| .alt 7 (.alt 1 (.alt 2 (.alt 3 (.alt 4 (.tk 5 8 <| .done) <| .alt 8 (.alt 4 (.tk 4 9 <| .done) <| .alt 9 (.take 4 <| .tk 3 10 <| .done) <| .stop) <| .stop) <| .alt 8 (.alt 3 (.alt 4 (.tk 4 9 <| .done) <| .alt 9 (.take 4 <| .tk 3 10 <| .done) <| .stop) <| .alt 9 (.tk 2 3 <| .tk 3 10 <| .done) <| .stop) <| .stop) <| .alt 8 (.alt 2 (.alt 3 (.alt 4 (.tk 4 9 <| .done) <| .alt 9 (.take 4 <| .tk 3 10 <| .done) <| .stop) <| .alt 9 (.tk 2 3 <| .tk 3 10 <| .done) <| .stop) <| .alt 9 (.tk 3 2 <| .tk 3 10 <| .done) <| .stop) <| .stop) <| .alt 8 (.alt 1 (.alt 2 (.alt 3 (.alt 4 (.tk 4 9 <| .done) <| .alt 9 (.take 4 <| .tk 3 10 <| .done) <| .stop) <| .alt 9 (.tk 2 3 <| .tk 3 10 <| .done) <| .stop) <| .alt 9 (.tk 3 2 <| .tk 3 10 <| .done) <| .stop) <| .alt 9 (.tk 4 1 <| .tk 3 10 <| .done) <| .stop) <| .stop) <| .stop) (by kernel_rfl) ?_
    simp only [go_sem, live_of hw, objK_of hw, live_old hw, objK_old hw, live_old hres, objK_old hres, set_old hrl, List.length_map, List.length_append, List.length_cons, List.length_nil, Nat.mul_one, Nat.zero_add, Tryd.results11]
    have htk : List.take cl.length (cl.map fun c => A.d (isD c)) = cl.map fun c => A.d (isD c) := List.take_of_length_le (by simp)
    have hres2 : (τ.set (σ.length + 1) (some (.cells [dn (first + gs.length), .rs (τ.length + 5) 1 0 (1 + cl.length + 1) (some 28)])))[σ.length + 1]? = some (some (.cells [dn (first + gs.length), .rs (τ.length + 5) 1 0 (1 + cl.length + 1) (some 28)])) := set_same hres
    simp only [htk, go_sem, objK_old hres2, live_old hres2, List.length_map]
    refine ⟨⟨by omega, by simp only [maxLen]; omega, by omega⟩, ?_⟩
    obtain ⟨τ2, hτ2⟩ : ∃ τ2, τ2 = τ.set (σ.length + 1) (some (.cells [dn (first + gs.length), .rs (τ.length + 5) 1 0 (1 + cl.length + 1) (some 28)])) := ⟨_, rfl⟩
    have hl2 : τ.length = τ2.length := by rw [hτ2, List.length_set]
    rw [← hτ2, hl2]
    have f1 : frzL (τ2.length + 0) 1 0 [iD 1] [A.tup [.agg [dn (first + gs.length), .rs (τ2.length + 5) 1 0 (1 + cl.length + 1) (some 28)], di 0]] = [A.tup [.agg [dn (first + gs.length), .rs (τ2.length + 5) 1 0 (1 + cl.length + 1) (some 28)], di 0]] := by
      have n1 : ¬ τ2.length + 5 = τ2.length := by omega
      simp [frzL, A.frz, mkAgg, toDs, n1]
    have f2 : frzL (τ2.length + 3) 1 0 [iD root] [A.tup [.agg [dn (first + gs.length), .rs (τ2.length + 5) 1 0 (1 + cl.length + 1) (some 28)], di 0]] = [A.tup [.agg [dn (first + gs.length), .rs (τ2.length + 5) 1 0 (1 + cl.length + 1) (some 28)], di 0]] := by
      have n1 : ¬ τ2.length + 5 = τ2.length + 3 := by omega
      simp [frzL, A.frz, mkAgg, toDs]
    refine ret_w (a' := A.tup [.agg [dn (first + gs.length), .rs (τ2.length + 5) 1 0 (1 + cl.length + 1) (some 28)], di 0]) (Weak.freezeIn' (σ := τ2) 0 5 1 0 [iD 1] f1 rfl (lies_ints [1]) rfl (by decide)) ?_
    refine ret_w (a' := A.tup [.agg [dn (first + gs.length), .rs (τ2.length + 5) 1 0 (1 + cl.length + 1) (some 28)], di 0]) (Weak.freezeIn' (σ := τ2) 3 5 1 0 [iD root] f2 rfl (lies_ints [root]) rfl (by decide)) ?_
    have hcl2 : frzL (τ2.length + 3) 1 0 [iD root] (frzL (τ2.length + 0) 1 0 [iD 1] (.rs τ2.length 1 0 1 (some 3) :: (cl.map (fun c => A.d (isD c)) ++ [.rs (τ2.length + 3) 1 0 1 (some 3)]))) = (mostC first gs ++ [[root]]).map fun c => A.d (isD c) := by
      rw [mostC, hcl']
      have n1 : ¬ τ2.length + 3 = τ2.length := by omega
      simp only [frzL, frz_app, frz_d, List.cons_append, List.map_cons, List.map_append, List.map_nil]
      simp [A.frz, isD, n1]
    simp only [List.set_cons_zero, List.set_cons_succ]
    rw [hcl2]
    have hml : ((mostC first gs ++ [[root]]).map isD).length = 1 + cl.length + 1 := by simp [mostC, hcl']; omega
    have f3 : frzL (τ2.length + 5) 1 0 ((mostC first gs ++ [[root]]).map isD) [A.tup [.agg [dn (first + gs.length), .rs (τ2.length + 5) 1 0 (1 + cl.length + 1) (some 28)], di 0]] = [A.tup [.d (cnfD (negF first (root, gs))), di 0]] := by
      simp only [frzL, A.frz, hml, and_self, if_true]
      rfl
    refine ret_w (a' := A.tup [.d (cnfD (negF first (root, gs))), di 0]) (by
      have := Weak.freeze (G := G) (n0 := σ.length) (fr := [A.tup [.agg [dn (first + gs.length), .rs (τ2.length + 5) 1 0 (1 + cl.length + 1) (some 28)], di 0]]) (σ := τ2 ++ [none, none, none, none, some (Ob.cells [A.rs (τ2.length + 3) 1 0 1 (some 3)]), some (.cells ((mostC first gs ++ [[root]]).map fun c => A.d (isD c)))]) (τ2.length + 5) 1 0 ((mostC first gs ++ [[root]]).map isD) (by simp) (lies_map isD (fun _ => ⟨rfl, rfl⟩) _)
      rw [f3] at this
      exact this) ?_
    refine ret_pre hbd rfl (by simp; omega) (fun id hid => ?_) h
    rw [set_other (by omega), List.getElem?_append_left (by omega), hτ2, set_other (by omega), hpre id hid]
  · intro ht σ' hk
    have hneg : negR cs c = (⟨0, []⟩, 2) := by rw [negR, ht]
    rw [hneg] at h
    have hl0 := hk.1
    simp only [List.length_append, List.length_cons, List.length_nil] at hl0
    have hres : σ'[σ.length + 1]? = some (some (.cells [di 0, .d .nils])) := by
      rw [hk.2 _ (by simp) (by simp only [List.mem_cons, List.not_mem_nil, or_false, not_or]; omega)]; simp
    have hres2 : (σ'.set (σ.length + 1) (some (.cells [di 0, .d .nils])))[σ.length + 1]? = some (some (.cells [di 0, .d .nils])) := set_same hres
    have hpre : ∀ id, id < σ.length → σ'[id]? = σ[id]? := fun id hid => by
      rw [hk.2 _ (by simp; omega) (by simp only [List.mem_cons, List.not_mem_nil, or_false, not_or]; omega), List.getElem?_append_left hid]
    simp only [go_sem, Int.reduceBNe, objK_of hres, live_of hres, objK_of hres2, live_of hres2, Tryd.results11]
    refine ret_imp (b := .tup [.d (cnfD ⟨0, []⟩), di 2]) (fun ρ w v hv => imp_tup (fun v hv => hv.nilA (.d (.agg (.cons (.refl _) (.cons (.nil 1) .nil))))) hv) ?_
    refine ret_pre hbd rfl (by simp; omega) (fun id hid => ?_) h
    rw [set_other (by omega), hpre id hid]
end Go.Proofs.YtkjlefahpdconaaDoor
end PartB11

section PartB12
/- Decode; Layout. -/
set_option linter.unusedSimpArgs false
set_option linter.unusedVariables false
set_option maxRecDepth 100000
namespace Go.Proofs.YtkjlefahpdconaaDoor
open Go Go.Ab

theorem or_pow {x k : Nat} (h : x < 2 ^ k) : x ||| 2 ^ k = x + 2 ^ k := by
  have := Nat.two_pow_add_eq_or_of_lt h 1
  rw [Nat.mul_one] at this
  rw [Nat.or_comm, ← this, Nat.add_comm]
theorem nat_row_succ (v : Nat → Bool) (p : Int) (k : Nat) (hp : 1 ≤ p) : nat v (rowL p (k + 1)) = nat v (rowL p k) + 2 ^ k * b2n (v (p.toNat + k)) := by
  rw [show rowL p (k + 1) = rowL p k ++ [p + (k : Int)] by simp [rowL, List.range_succ], nat_append]
  simp only [nat, Nat.mul_zero, Nat.add_zero]
  rw [show (rowL p k).length = k by simp [rowL], val, if_neg (by omega)]
  congr 3; congr 1; omega
theorem part_snoc0 {acc : List Int} {n : Nat} (h : acc.length < n) : part (acc ++ [0]) n = part acc n := by
  simp only [part, List.length_append, List.length_cons, List.length_nil]
  obtain ⟨k, hk⟩ : ∃ k, n - acc.length = k + 1 := ⟨n - acc.length - 1, by omega⟩
  rw [hk, show n - (acc.length + (0 + 1)) = k by omega, List.replicate_succ]; simp
theorem part_at {acc : List Int} {n j : Nat} (hj : acc.length = j) (x : Int) (h : j < n) : (part (acc ++ [x]) n).getD j 0 = x := by
  subst hj
  simp [part, List.getD_eq_getElem?_getD]
theorem decS_take {cs : List Cel} {lay : List Int} {vs : List Bool} {j : Nat} (h : j < cs.length) : (decS cs lay vs).take (j + 1) = (decS cs lay vs).take j ++ [if lay.getD j 0 = 0 then (cs.getD j cel0).init else ((nat (vOf vs) (rowL (lay.getD j 0) (wOf cs j).toNat) : Nat) : Int)] := by
  rw [take_snoc 0 (by rw [decS_len]; exact h), decS_at lay h]
set_option maxHeartbeats 8000000 in
theorem read_ac (cs : List Cel) (hcs : cs.length ≤ 32) (lay : List Int) (hll : lay.length = cs.length) (vs : List Bool) (hvs : vs.length ≤ reachBytes) (hlay : ∀ i, i < cs.length → lay.getD i 0 ≠ 0 → 1 ≤ lay.getD i 0 ∧ lay.getD i 0 ≤ 8000 ∧ 1 ≤ wOf cs i ∧ wOf cs i ≤ 8) {ic iv : Nat} (σ : St)
    (hc : σ[ic]? = some (some (.cells [.d (celsD cs)]))) (hv : σ[iv]? = some (some (.cells [.d (bsD vs)]))) (G : Glob) (R : A → St → Prop) (h : R (dL (decS cs lay vs)) σ) : AC Tryd.prog G 41 [dL lay, .ref ic 0, .ref iv 0] σ R := by
  have hlc := lt_of_some hc
  have hlv := lt_of_some hv
  simp only [celsD] at hc
  simp only [bsD] at hv
  refine ac_enter' mixed Tryd.func41 rfl Tryd.ntmps41 (by simp only [go_sem]) fun hbd => ?_
  simp only [List.length_cons, List.length_nil, Nat.reduceAdd, Nat.reduceSub, List.replicate_succ, List.replicate_zero, List.cons_append, List.nil_append]
  simp only [dL, isD, go_sem, live_of hc, objK_of hc, List.length_map, Int.toNat_natCast, zeros_cells]
  refine ⟨⟨by omega, by omega, by omega, by omega⟩, ?_⟩
  refine aw_loop (fun m fr st => ∃ (j : Nat), j ≤ cs.length ∧ m = cs.length - j ∧ fr = [.any, .ref ic 0, .ref iv 0, .any, .any, .rs σ.length 1 0 cs.length (some 3), .any, .any, .any, .any, .any, .any, .any, .d (.sl 1 (lay.map iD)), dn lay.length, dn j, .any, .any, .any, .any, .any, .any, .any, .any, .any, .any, .any, .any, .any, .any, .any, .any, .any, .any, .any, .any, .any, .any, .any, .any, .any, .any, .any, .any, .any, .any, .any, .any, .any, .any, .any, .any, .any, .any, .any, .any, .any, .any, .any, .any, .any, .any, .any] ∧
    st = σ ++ [some (.cells ((part ((decS cs lay vs).take j) cs.length).map fun x => A.d (iD x)))]) cs.length _ (Wk.mask [1, 2, 5, 13, 14, 15] ⟨0, by omega, rfl, rfl, rfl⟩) ?_
  rintro m fr st ⟨j, hj, hm, rfl, rfl⟩
  have hdl : (decS cs lay vs).length = cs.length := decS_len lay
  have hacc : ((decS cs lay vs).take j).length = j := by rw [List.length_take]; omega
  rcases Nat.lt_or_ge j cs.length with hlt | hge
  · have hd : decide ((j : Int) < (lay.length : Int)) = true := by simp; omega
    have e1 := getD_isD (l := lay) (j := j) (by omega)
    have w1 := wrapS j (by omega)
    have hsn := decS_take (vs := vs) (lay := lay) hlt
    have e2 := celD_at (l := cs) (j := j) (by omega)
    simp only [celD] at e2
    have e3 : (cs.getD j cel0).w = wOf cs j := rfl
    rw [e3] at e2
    have hlj := hlay j hlt
    generalize hp : lay.getD j 0 = p at *
    generalize (decS cs lay vs).take j = acc at *
    simp only [go_sem, hd, e1, List.length_map, Int.toNat_natCast, Tryd.results41]
    refine ⟨⟨by omega, by omega⟩, fun q => ?_, fun q => ?_⟩
    · have q : p = 0 := by simpa using q
      rw [if_pos q] at hsn
      have hset := part_cells (acc := acc) (n := cs.length) (j := j) hacc hlt (cs.getD j cel0).init
      have hpl : (part acc cs.length).length = cs.length := part_len (by omega)
      simp only [go_sem, live_old hc, objK_old hc, e2, w1, List.length_map, Int.toNat_natCast, Nat.mul_one, Nat.zero_add, hset, hpl, Tryd.results41]
      exact ⟨⟨by omega, by omega⟩, ⟨by omega, by omega⟩, hlt, Wk.mask [1, 2, 5, 13, 14, 15] ⟨cs.length - (j + 1), by omega, j + 1, hlt, rfl, rfl, by rw [hsn]⟩⟩
    · have q : p ≠ 0 := by simpa using q
      rw [if_neg q] at hsn
      obtain ⟨p1, p2, p3, p4⟩ := hlj q
      obtain ⟨W, hW⟩ : ∃ W : Nat, wOf cs j = W := ⟨(wOf cs j).toNat, by omega⟩
      rw [hW] at e2 hsn p3 p4
      simp only [go_sem, live_old hc, objK_old hc, e2, w1, List.length_map, Int.toNat_natCast, Tryd.results41]
      refine ⟨⟨by omega, by omega⟩, ?_⟩
      refine aw_loop (fun m fr st => ∃ (k : Nat), k ≤ W ∧ m = W - k ∧ fr = [.any, .ref ic 0, .ref iv 0, .any, .any, .rs σ.length 1 0 cs.length (some 3), dn j, di p, .any, .any, .any, .any, .any, .d (.sl 1 (lay.map iD)), dn lay.length, dn j, .any, .any, .any, .any, .any, .any, .any, .any, .any, .any, .any, .any, .any, .any, .any, .any, .any, .any, dn W, dn k, .any, .any, .any, .any, .any, .any, .any, .any, .any, .any, .any, .any, .any, .any, .any, .any, .any, .any, .any, .any, .any, .any, .any, .any, .any, .any, .any] ∧
        st = σ ++ [some (.cells ((part (acc ++ [((nat (vOf vs) (rowL p k) : Nat) : Int)]) cs.length).map fun x => A.d (iD x)))]) W _ (Wk.mask [1, 2, 5, 6, 7, 13, 14, 15, 34, 35] ⟨0, by omega, rfl, rfl, by rw [show ((nat (vOf vs) (rowL p 0) : Nat) : Int) = 0 from rfl, part_snoc0 (by omega)]⟩) ?_
      rintro m fr st ⟨k, hk, hm, rfl, rfl⟩
      rcases Nat.lt_or_ge k W with hlt2 | hge2
      · have hd2 : decide ((k : Int) < (W : Int)) = true := by simp; omega
        have w2 := wrapS k (by omega)
        have w3 : IntKind.i64.wrap (p + (k : Int)) = p + k := wrap64_id _ (by omega) (by omega)
        have w4 : IntKind.i64.wrap (p + (k : Int) - 1) = ((p.toNat + k - 1 : Nat) : Int) := by rw [wrap64_id _ (by omega) (by omega)]; omega
        have hnx := nat_row_succ (vOf vs) p k p1
        have hnlt := nat_lt (vOf vs) (rowL p k)
        rw [show (rowL p k).length = k by simp [rowL]] at hnlt
        have hpw := pow_lt8 (k := k) (by omega)
        have hstep : ∀ b : Bool, vOf vs (p.toNat + k) = b → (nat (vOf vs) (rowL p (k + 1)) = if b = true then nat (vOf vs) (rowL p k) ||| 2 ^ k else nat (vOf vs) (rowL p k)) := fun b hb => by
          rw [hnx, hb]
          cases b
          · simp [b2n]
          · rw [if_pos rfl, or_pow hnlt]; simp [b2n]
        simp only [vOf] at hstep
        rcases Nat.lt_or_ge (p.toNat + k - 1) vs.length with hin | hout
        · have hd3 : decide (((p.toNat + k - 1 : Nat) : Int) < (vs.length : Int)) = true := by simp; omega
          have e4 : List.getD (List.map D.bool vs) (p.toNat + k - 1) default = .bool (vs.getD (p.toNat + k - 1) false) := getD_mapD hin
          simp only [go_sem, hd2, w3, w4, live_old hv, objK_old hv, hd3, e4, List.length_map, Int.toNat_natCast, Tryd.results41]
          have hb := hstep _ rfl
          generalize vs.getD (p.toNat + k - 1) false = b at *
          generalize hN : nat (vOf vs) (rowL p k) = N at *
          have hpl : (part (acc ++ [((N : Nat) : Int)]) cs.length).length = cs.length := part_len (by simp; omega)
          have hat := part_at (acc := acc) (n := cs.length) hacc (N : Int) hlt
          have hget := getD_intsA (l := part (acc ++ [((N : Nat) : Int)]) cs.length) (k := j) (by omega)
          rw [hat] at hget
          have hsh := bShl_one (k := k) (by omega)
          have hor := bOr_nat (a := N) (b := 2 ^ k) (by omega) hpw
          have hset2 : ((part (acc ++ [((N : Nat) : Int)]) cs.length).map fun x => A.d (iD x)).take j ++ A.d (iD ((N ||| 2 ^ k : Nat) : Int)) :: ((part (acc ++ [((N : Nat) : Int)]) cs.length).map fun x => A.d (iD x)).drop (j + 1) = (part (acc ++ [((N ||| 2 ^ k : Nat) : Int)]) cs.length).map fun x => A.d (iD x) := by
            rw [splice_intsA _ (by omega)]
            have := part_set2 (acc := acc) (n := cs.length) (by omega) (N : Int) ((N ||| 2 ^ k : Nat) : Int)
            rw [hacc] at this; rw [this]
          refine ⟨⟨by omega, by omega⟩, fun q => ?_, fun q => ?_⟩
          · subst q
            rw [if_pos rfl] at hb
            refine aw_plan (.tk 9 0 <| .done) (by kernel_rfl) ?_
            simp only [go_sem, List.length_map, Int.toNat_natCast, Nat.mul_one, Nat.zero_add, hget, hpl, hsh, hor, hset2, w2, Tryd.results41]
            exact ⟨⟨by omega, by omega⟩, hlt, by omega, ⟨by omega, by omega⟩, hlt, Wk.mask [1, 2, 5, 6, 7, 13, 14, 15, 34, 35] ⟨W - (k + 1), by omega, k + 1, hlt2, rfl, rfl, by rw [hb]⟩⟩
          · subst q
            rw [if_neg (by simp)] at hb
            simp only [go_sem, w2, Tryd.results41]
            exact Wk.mask [1, 2, 5, 6, 7, 13, 14, 15, 34, 35] ⟨W - (k + 1), by omega, k + 1, hlt2, rfl, rfl, by rw [hb]⟩
        · have hd3 : decide (((p.toNat + k - 1 : Nat) : Int) < (vs.length : Int)) = false := by simp; omega
          have hb := hstep false (by rw [List.getD_eq_getElem?_getD, List.getElem?_eq_none hout]; rfl)
          rw [if_neg (by simp)] at hb
          simp only [go_sem, hd2, w2, w3, w4, live_old hv, objK_old hv, hd3, List.length_map, Int.toNat_natCast, Tryd.results41]
          exact Wk.mask [1, 2, 5, 6, 7, 13, 14, 15, 34, 35] ⟨W - (k + 1), by omega, k + 1, hlt2, rfl, rfl, by rw [hb]⟩
      · have hd2 : decide ((k : Int) < (W : Int)) = false := by simp; omega
        obtain rfl : k = W := by omega
        simp only [go_sem, hd2, w1, Tryd.results41]
        exact Wk.mask [1, 2, 5, 13, 14, 15] ⟨cs.length - (j + 1), by omega, j + 1, hlt, rfl, rfl, by rw [hsn]; rfl⟩
  · have hd : decide ((j : Int) < (lay.length : Int)) = false := by simp; omega
    obtain rfl : j = cs.length := by omega
    simp only [go_sem, hd, Tryd.results41]
    rw [List.take_of_length_le (by omega), part_full (by omega)]
    refine ret_frz 0 1 0 ((decS cs lay vs).map iD) rfl (lies_ints _) ?_
    simp only [go_sem, List.length_map, hdl, and_self, if_true]
    exact ret_d hbd h
end Go.Proofs.YtkjlefahpdconaaDoor
end PartB12

section PartB13
/- Decode and Layout, whole; Extend's writing. -/
set_option linter.unusedSimpArgs false
set_option linter.unusedVariables false
set_option maxRecDepth 100000
namespace Go.Proofs.YtkjlefahpdconaaDoor
open Go Go.Ab

section
variable {cs : List Cel} {hy go : Ex}
theorem Enc.layO_ok (E : Enc cs hy go) : ∀ i, i < cs.length → (lO cs hy go).getD i 0 ≠ 0 → 1 ≤ (lO cs hy go).getD i 0 ∧ (lO cs hy go).getD i 0 ≤ 8000 ∧ 1 ≤ wOf cs i ∧ wOf cs i ≤ 8 := fun i hi hne => by
  have hb : (occB cs hy go 3).getD i false = true := by
    cases hb : (occB cs hy go 3).getD i false
    · exact (hne (E.placedO.zero i hb)).elim
    · rfl
  have h1 := E.placedO.pos i hb
  have h2 := E.width (.inr rfl) hb
  have h3 := E.first_le
  have h4 := E.placedN.le
  omega
theorem Enc.layN_ok (E : Enc cs hy go) : ∀ i, i < cs.length → (lN cs hy go).getD i 0 ≠ 0 → 1 ≤ (lN cs hy go).getD i 0 ∧ (lN cs hy go).getD i 0 ≤ 8000 ∧ 1 ≤ wOf cs i ∧ wOf cs i ≤ 8 := fun i hi hne => by
  have hb : (occB cs hy go 2).getD i false = true := by
    cases hb : (occB cs hy go 2).getD i false
    · exact (hne (E.placedN.zero i hb)).elim
    · rfl
  have h1 := E.placedN.pos i hb
  have h2 := E.width (.inl rfl) hb
  have h3 := E.first_le
  omega
theorem Enc.lO_len (E : Enc cs hy go) : (lO cs hy go).length = cs.length := by rw [E.placedO.len, occB_len]
theorem Enc.lN_len (E : Enc cs hy go) : (lN cs hy go).length = cs.length := by rw [E.placedN.len, occB_len]
end
theorem lay_ac (cs : List Cel) (c : Cnd) (hok : c.Ok) (he : encR cs c = true) (σ : St) (G : Glob) (hG : G.g 0 = some masksD) (R : A → St → Prop) (h : R (.tup [dL (lO cs c.hyp c.goal), dL (lN cs c.hyp c.goal)]) σ) : AC Tryd.prog G 18 [.d (celsD cs), .d (cndD c)] σ R := by
  have E := enc_of he
  refine ac_enter' mixed Tryd.func18 rfl Tryd.ntmps18 (by simp only [go_sem]) fun hbd => ?_
  simp only [List.length_cons, List.length_nil, Nat.reduceAdd, Nat.reduceSub, List.replicate_succ, List.replicate_zero, List.cons_append, List.nil_append]
  simp only [cndD, go_sem, Tryd.results18]
  refine ac' (encodable_ac cs c hok he _ _ hG _ ?_)
  simp only [cndD, go_sem, Tryd.results18]
  refine ac' (layout_ac cs c hok E _ _ hG _ ?_)
  simp only [go_sem, Tryd.results18]
  exact ret_bd hbd rfl h
theorem dec_ac (cs : List Cel) (c : Cnd) (hok : c.Ok) (he : encR cs c = true) (vs : List Bool) (hvs : vs.length ≤ reachBytes) (σ : St) (G : Glob) (hG : G.g 0 = some masksD) (R : A → St → Prop) (h : R (.tup [dL (decS cs (lO cs c.hyp c.goal) vs), dL (decS cs (lN cs c.hyp c.goal) vs)]) σ) : AC Tryd.prog G 16 [.d (celsD cs), .d (cndD c), .d (bsD vs)] σ R := by
  have E := enc_of he
  have hcl := E.len
  refine ac_enter' mixed Tryd.func16 rfl Tryd.ntmps16 (by simp only [go_sem]) fun hbd => ?_
  simp only [List.length_cons, List.length_nil, Nat.reduceAdd, Nat.reduceSub, List.replicate_succ, List.replicate_zero, List.cons_append, List.nil_append]
  simp only [celsD, bsD, cndD, go_sem, Tryd.results16]
  refine ac' (encodable_ac cs c hok he _ _ hG _ ?_)
  simp only [celsD, bsD, cndD, go_sem, Tryd.results16]
  refine ac' (layout_ac cs c hok E _ _ hG _ ?_)
  simp only [celsD, bsD, cndD, go_sem, Tryd.results16]
  refine ac' (read_ac cs hcl _ E.lO_len vs hvs E.layO_ok _ (by simp [celsD]) (by simp [bsD]) _ _ ?_)
  simp only [celsD, bsD, cndD, go_sem, Tryd.results16]
  refine ac' (read_ac cs hcl _ E.lN_len vs hvs E.layN_ok _ (by simp [celsD]) (by simp [bsD]) _ _ ?_)
  simp only [celsD, bsD, cndD, go_sem, Tryd.results16]
  exact ret_bd hbd rfl h
theorem setBits_all (p : Nat) (x : Int) (vs : List Bool) : ∀ k, (setBits p x vs k).length = vs.length := setBits_len p x vs
set_option maxHeartbeats 8000000 in
theorem write_ac (cs : List Cel) (hcs : cs.length ≤ 32) (lay : List Int) (hll : lay.length = cs.length) (stt : List Int) (hst : stt.length ≤ reachBytes) (vs : List Bool) (hvs : vs.length ≤ 100000)
    (hlay : ∀ i, i < cs.length → lay.getD i 0 ≠ 0 → 1 ≤ lay.getD i 0 ∧ lay.getD i 0 + wOf cs i - 1 ≤ vs.length ∧ 1 ≤ wOf cs i ∧ wOf cs i ≤ 8) {ic iv iV ib : Nat} {a b : A} (σ : St)
    (hc : σ[ic]? = some (some (.cells [.d (celsD cs)]))) (hv : σ[iv]? = some (some (.cells [.ref iV 0]))) (hV : σ[iV]? = some (some (.cells [a, b, .rs ib 1 0 vs.length (some 4)]))) (hb : σ[ib]? = some (some (.cells (vs.map fun b => .d (.bool b))))) (n1 : ic ≠ ib) (n2 : iv ≠ ib) (n3 : iV ≠ ib)
    (G : Glob) (R : A → St → Prop) (h : ∀ r, R r (σ.set ib (some (.cells ((writeN cs lay stt vs cs.length).map fun b => .d (.bool b)))))) : AC Tryd.prog G 35 [dL lay, dL stt, .ref ic 0, .ref iv 0] σ R := by
  simp only [celsD] at hc
  refine ac_enter' mixed Tryd.func35 rfl Tryd.ntmps35 (by simp only [go_sem]) fun hbd => ?_
  simp only [List.length_cons, List.length_nil, Nat.reduceAdd, Nat.reduceSub, List.replicate_succ, List.replicate_zero, List.cons_append, List.nil_append]
  simp only [dL, isD, go_sem, List.length_map]
  refine aw_loop (fun m fr st => ∃ (j : Nat), j ≤ cs.length ∧ m = cs.length - j ∧ fr = [.any, .d (.sl 1 (stt.map iD)), .ref ic 0, .ref iv 0, .any, .any, .any, .any, .any, .d (.sl 1 (lay.map iD)), dn lay.length, dn j, .any, .any, .any, .any, .any, .any, .any, .any, .any, .any, .any, .any, .any, .any, .any, .any, .any, .any, .any, .any, .any, .any, .any, .any, .any, .any, .any, .any, .any, .any, .any, .any, .any, .any, .any, .any, .any, .any, .any] ∧
    st = σ.set ib (some (.cells ((writeN cs lay stt vs j).map fun b => .d (.bool b))))) cs.length _ (Wk.mask [1, 2, 3, 9, 10, 11] ⟨0, by omega, rfl, rfl, by
      apply List.ext_getElem?
      intro i
      rw [List.getElem?_set]
      by_cases e : ib = i
      · subst e; rw [if_pos rfl, if_pos (lt_of_some hb), hb]; rfl
      · rw [if_neg e]⟩) ?_
  rintro m fr st ⟨j, hj, hm, rfl, rfl⟩
  obtain ⟨us, hus⟩ : ∃ us, writeN cs lay stt vs j = us := ⟨_, rfl⟩
  have hul : us.length = vs.length := by rw [← hus, writeN_len]
  rw [hus]
  rcases Nat.lt_or_ge j cs.length with hlt | hge
  · have hd : decide ((j : Int) < (lay.length : Int)) = true := by simp; omega
    have e1 := getD_isD (l := lay) (j := j) (by omega)
    have w1 := wrapS j (by omega)
    have e2 := celD_at (l := cs) (j := j) (by omega)
    simp only [celD] at e2
    have e3 : (cs.getD j cel0).w = wOf cs j := rfl
    rw [e3] at e2
    have hlj := hlay j hlt
    have hwn : writeN cs lay stt vs (j + 1) = if lay.getD j 0 = 0 ∨ stt.length ≤ j then us else setBits (lay.getD j 0 - 1).toNat (stt.getD j 0) us (wOf cs j).toNat := by rw [← hus]; rfl
    generalize hp : lay.getD j 0 = p at *
    simp only [go_sem, hd, e1, w1, List.length_map, Int.toNat_natCast, Tryd.results35]
    refine ⟨⟨by omega, by omega⟩, fun q => ?_, fun q => ?_⟩
    · have q' : p = 0 ∨ stt.length ≤ j := by
        simp only [Bool.or_eq_true, beq_iff_eq, decide_eq_true_eq] at q; omega
      rw [if_pos q'] at hwn
      exact Wk.mask [1, 2, 3, 9, 10, 11] ⟨cs.length - (j + 1), by omega, j + 1, hlt, rfl, rfl, by rw [hwn]⟩
    · have q' : ¬ (p = 0 ∨ stt.length ≤ j) := by
        simp only [Bool.or_eq_false_iff, beq_eq_false_iff_ne, ne_eq, decide_eq_false_iff_not] at q; omega
      rw [if_neg q'] at hwn
      obtain ⟨p1, p2, p3, p4⟩ := hlj (fun h => q' (.inl h))
      obtain ⟨W, hW⟩ : ∃ W : Nat, wOf cs j = W := ⟨(wOf cs j).toNat, by omega⟩
      rw [hW] at e2 hwn p2 p3 p4
      have hc1 : ∀ x, (σ.set ib x)[ic]? = some (some (.cells [.d (.sl 6 (cs.map celD))])) := fun x => by rw [set_other (Ne.symm n1)]; exact hc
      have hv1 : ∀ x, (σ.set ib x)[iv]? = some (some (.cells [.ref iV 0])) := fun x => by rw [set_other (Ne.symm n2)]; exact hv
      have hV1 : ∀ x, (σ.set ib x)[iV]? = some (some (.cells [a, b, .rs ib 1 0 vs.length (some 4)])) := fun x => by rw [set_other (Ne.symm n3)]; exact hV
      have hb1 : ∀ x, (σ.set ib x)[ib]? = some x := fun x => set_same hb
      have e5 := getD_isD (l := stt) (j := j) (by omega)
      generalize stt.getD j 0 = x at *
      simp only [go_sem, live_of (hc1 _), objK_of (hc1 _), e2, w1, List.length_map, Int.toNat_natCast, Tryd.results35]
      refine ⟨⟨by omega, by omega⟩, ?_⟩
      refine aw_loop (fun m fr st => ∃ (k : Nat), k ≤ W ∧ m = W - k ∧ fr = [.any, .d (.sl 1 (stt.map iD)), .ref ic 0, .ref iv 0, .any, .any, dn j, di p, .any, .d (.sl 1 (lay.map iD)), dn lay.length, dn j, .any, .any, .any, .any, .any, .any, .any, .any, .any, .any, .any, .any, .any, .any, .any, .any, dn W, dn k, .any, .any, .any, .any, .any, .any, .any, .any, .any, .any, .any, .any, .any, .any, .any, .any, .any, .any, .any, .any, .any] ∧
        st = σ.set ib (some (.cells ((setBits (p - 1).toNat x us k).map fun b => .d (.bool b))))) W _ (Wk.mask [1, 2, 3, 6, 7, 9, 10, 11, 28, 29] ⟨0, by omega, rfl, rfl, rfl⟩) ?_
      rintro m fr st ⟨k, hk, hm, rfl, rfl⟩
      have hsl := setBits_len (p - 1).toNat x us k
      rcases Nat.lt_or_ge k W with hlt2 | hge2
      · have hd2 : decide ((k : Int) < (W : Int)) = true := by simp; omega
        have w2 := wrapS k (by omega)
        have w3 : IntKind.i64.wrap (p + (k : Int)) = p + k := wrap64_id _ (by omega) (by omega)
        have w4 : IntKind.i64.wrap (p + (k : Int) - 1) = (((p - 1).toNat + k : Nat) : Int) := by rw [wrap64_id _ (by omega) (by omega)]; omega
        have hbt := bit_test x (k := k) (by omega)
        have hset := splice_boolsA (l := setBits (p - 1).toNat x us k) (j := (p - 1).toNat + k) (ibit x k) (by omega)
        have hnext : (setBits (p - 1).toNat x us k).set ((p - 1).toNat + k) (ibit x k) = setBits (p - 1).toNat x us (k + 1) := rfl
        rw [hnext] at hset
        simp only [go_sem, hd2, Tryd.results35]
        refine aw_plan (.tk 18 0 <| .done) (by kernel_rfl) ?_
        simp only [go_sem, live_of (hv1 _), objK_of (hv1 _), live_of (hV1 _), objK_of (hV1 _), live_of (hb1 _), objK_of (hb1 _), w2, w3, w4, hbt, e5, List.length_map, Int.toNat_natCast, Nat.mul_one, Nat.zero_add, List.set_set, Tryd.results35]
        rw [hset]
        exact ⟨⟨by omega, by omega⟩, by omega, ⟨by omega, by omega⟩, by omega, Wk.mask [1, 2, 3, 6, 7, 9, 10, 11, 28, 29] ⟨W - (k + 1), by omega, k + 1, hlt2, rfl, rfl, rfl⟩⟩
      · have hd2 : decide ((k : Int) < (W : Int)) = false := by simp; omega
        obtain rfl : k = W := by omega
        simp only [go_sem, hd2, w1, Tryd.results35]
        exact Wk.mask [1, 2, 3, 9, 10, 11] ⟨cs.length - (j + 1), by omega, j + 1, hlt, rfl, rfl, by rw [hwn]; rfl⟩
  · have hd : decide ((j : Int) < (lay.length : Int)) = false := by simp; omega
    obtain rfl : j = cs.length := by omega
    simp only [go_sem, hd, Tryd.results35]
    rw [← hus]
    exact ⟨_, _, Weak.refl _ _ _ _, h _⟩
end Go.Proofs.YtkjlefahpdconaaDoor
end PartB13

section PartB14
/- Extend. -/
set_option linter.unusedSimpArgs false
set_option linter.unusedVariables false
set_option maxRecDepth 100000
namespace Go.Proofs.YtkjlefahpdconaaDoor
open Go Go.Ab

/-- Extend's answer: data, or nil. -/
def extR (cs : List Cel) (c : Cnd) (old now : List Int) : List Bool × Int := match transM cs c.hyp c.goal [] with
  | some p => (extV cs c.hyp c.goal old now p.2, 0)
  | none => ([], 2)
theorem Enc.layO_fit {cs : List Cel} {hy go : Ex} (E : Enc cs hy go) : ∀ i, i < cs.length → (lO cs hy go).getD i 0 ≠ 0 → 1 ≤ (lO cs hy go).getD i 0 ∧ (lO cs hy go).getD i 0 + wOf cs i - 1 ≤ firstV cs hy go ∧ 1 ≤ wOf cs i ∧ wOf cs i ≤ 8 := fun i hi hne => by
  have hb : (occB cs hy go 3).getD i false = true := by
    cases hb : (occB cs hy go 3).getD i false
    · exact (hne (E.placedO.zero i hb)).elim
    · rfl
  have h1 := E.placedO.pos i hb
  have h2 := E.width (.inr rfl) hb
  have h4 := E.placedN.le
  omega
theorem Enc.layN_fit {cs : List Cel} {hy go : Ex} (E : Enc cs hy go) : ∀ i, i < cs.length → (lN cs hy go).getD i 0 ≠ 0 → 1 ≤ (lN cs hy go).getD i 0 ∧ (lN cs hy go).getD i 0 + wOf cs i - 1 ≤ firstV cs hy go ∧ 1 ≤ wOf cs i ∧ wOf cs i ≤ 8 := fun i hi hne => by
  have hb : (occB cs hy go 2).getD i false = true := by
    cases hb : (occB cs hy go 2).getD i false
    · exact (hne (E.placedN.zero i hb)).elim
    · rfl
  have h1 := E.placedN.pos i hb
  have h2 := E.width (.inl rfl) hb
  omega
set_option maxHeartbeats 16000000 in
theorem ext_ac (cs : List Cel) (c : Cnd) (hok : c.Ok) (he : encR cs c = true) (old now : List Int) (ho : old.length ≤ reachBytes) (hn : now.length ≤ reachBytes) (σ : St) (G : Glob) (hG : G.g 0 = some masksD) (R : A → St → Prop) (h : R (.tup [.d (bsD (extR cs c old now).1), di (extR cs c old now).2]) σ) : AC Tryd.prog G 12 [.d (celsD cs), .d (cndD c), dL old, dL now] σ R := by
  have E := enc_of he
  have hcl := E.len
  have hf1 := E.first_ge
  have hf2 := E.first_le
  refine ac_enter' mixed Tryd.func12 rfl Tryd.ntmps12 (by simp only [go_sem]) fun hbd => ?_
  simp only [List.length_cons, List.length_nil, Nat.reduceAdd, Nat.reduceSub, List.replicate_succ, List.replicate_zero, List.cons_append, List.nil_append]
  simp only [celsD, cndD, go_sem, Tryd.results12]
  refine ac' (encodable_ac cs c hok he _ _ hG _ ?_)
  simp only [celsD, cndD, go_sem, Tryd.results12]
  refine ac' (layout_ac cs c hok E _ _ hG _ ?_)
  generalize hF : firstV cs c.hyp c.goal = F at *
  have hfc := falses_cells F
  have hsp := splice_boolsA (l := List.replicate F false) (j := 0) true (by simp; omega)
  simp only [List.take_zero, List.nil_append, Nat.zero_add] at hsp
  simp only [celsD, cndD, go_sem, Int.toNat_natCast, hfc, List.length_map, List.length_replicate, Nat.mul_one, Int.toNat_zero, Nat.zero_mul, List.take_zero, List.nil_append, Nat.zero_add, hsp, Tryd.results12]
  have hb0 : base0 cs c.hyp c.goal = (List.replicate F false).set 0 true := by rw [base0, hF]
  have hb0l : ((List.replicate F false).set 0 true).length = F := by simp
  rw [← hb0] at hb0l ⊢
  refine ⟨⟨by omega, by omega, by omega, by omega⟩, ⟨by omega, by omega⟩, by omega, ac' ?_⟩
  have fitO := E.layO_fit
  have fitN := E.layN_fit
  rw [hF] at fitO fitN
  refine write_ac cs hcl _ E.lO_len old ho (base0 cs c.hyp c.goal) (by omega) (by rw [hb0l]; exact fitO) (iV := σ.length + 3) (ib := σ.length + 2) (a := di 0) (b := di 0) _ (by simp [celsD]) (by simp) (by simp [hb0l]) (by simp) (by omega) (by omega) (by omega) _ _ fun r => ?_
  obtain ⟨v1, hv1⟩ : ∃ v1, writeN cs (lO cs c.hyp c.goal) old (base0 cs c.hyp c.goal) cs.length = v1 := ⟨_, rfl⟩
  have hv1l : v1.length = F := by rw [← hv1, writeN_len, hb0l]
  rw [hv1]
  simp only [celsD, cndD, go_sem, List.set_cons_succ, List.set_cons_zero, Tryd.results12]
  refine ac' (write_ac cs hcl _ E.lN_len now hn v1 (by omega) (by rw [hv1l]; exact fitN) (iV := σ.length + 3) (ib := σ.length + 2) (a := di 0) (b := di 0) _ (by simp [celsD]) (by simp) (by simp [hv1l]) (by simp) (by omega) (by omega) (by omega) _ _ fun r => ?_)
  have hbase : writeN cs (lN cs c.hyp c.goal) now v1 cs.length = base cs c.hyp c.goal old now := by rw [base, hv1]
  have hbl := base_len (cs := cs) (h := c.hyp) (g := c.goal) (old := old) (now := now)
  rw [hF] at hbl
  rw [hbase]
  simp only [celsD, cndD, go_sem, List.set_cons_succ, List.set_cons_zero, Tryd.results12]
  obtain ⟨v2, hv2⟩ : ∃ v2, base cs c.hyp c.goal old now = v2 := ⟨_, rfl⟩
  rw [hv2] at hbl ⊢
  refine ac' (translate_ac (.va v2) cs c hok E (by rw [Gd.ok, hF]; exact hbl) (iw := σ.length + 3) (ic := σ.length + 2) (by omega) _ (x := di 0) (y := di 0) (by simp [Gd.rest, hbl]) (by simp [Gd.oc, gateVals]) G hG _ ?_ ?_)
  · intro root gs ic' τ ht hB hst
    have hext : extR cs c old now = (gateVals v2 gs, 0) := by rw [extR, ht, ← hv2]; rfl
    rw [hext] at h
    obtain ⟨hw, hc, hne⟩ := hB
    simp only [Gd.ow, Gd.oc] at hw hc
    have hl0 := hst.keep.1
    simp only [List.length_append, List.length_cons, List.length_nil] at hl0
    have hvv : τ[σ.length + 4]? = some (some (.cells [.ref (σ.length + 3) 0])) := by
      rw [hst.keep.2 _ (by simp) (by simp only [List.mem_cons, List.not_mem_nil, or_false, not_or]; omega)]; simp
    have hpre : ∀ id, id < σ.length → τ[id]? = σ[id]? := fun id hid => by
      rw [hst.keep.2 _ (by simp; omega) (by simp only [List.mem_cons, List.not_mem_nil, or_false, not_or]; omega), List.getElem?_append_left hid]
    have hgt : σ.length ≤ ic' := by
      rcases hst.at' with e | e
      · omega
      · simp only [List.length_append, List.length_cons, List.length_nil] at e; omega
    clear hst
    simp only [go_sem, live_of hw, objK_of hw, live_of hc, objK_of hc, live_of hvv, objK_of hvv, Int.reduceBNe, List.length_map, Tryd.results12]
    refine ret_w (a' := .tup [.d (bsD (gateVals v2 gs)), di 0]) (by
      have := Weak.freeze (G := G) (n0 := σ.length) (fr := [A.tup [.rs ic' 1 0 (gateVals v2 gs).length (some 4), di 0]]) ic' 1 0 ((gateVals v2 gs).map D.bool) hc (lies_map D.bool (fun _ => ⟨rfl, rfl⟩) _)
      simp only [frzL, A.frz, List.length_map, and_self, if_true] at this
      exact this) ?_
    refine ret_pre hbd rfl (by simp; omega) (fun id hid => ?_) h
    rw [set_other (by omega), hpre id hid]
  · intro ht τ hk
    have hext : extR cs c old now = ([], 2) := by rw [extR, ht]
    rw [hext] at h
    have hl0 := hk.1
    simp only [List.length_append, List.length_cons, List.length_nil] at hl0
    have hpre : ∀ id, id < σ.length → τ[id]? = σ[id]? := fun id hid => by
      rw [hk.2 _ (by simp; omega) (by simp only [List.mem_cons, List.not_mem_nil, or_false, not_or]; omega), List.getElem?_append_left hid]
    simp only [go_sem, Int.reduceBNe, Tryd.results12]
    refine ret_imp (b := .tup [.d (bsD []), di 2]) (fun ρ w v hv => imp_tup (fun v hv => hv.nilA (.d (.nil 1))) hv) ?_
    exact ret_pre hbd rfl (by omega) hpre h
end Go.Proofs.YtkjlefahpdconaaDoor
end PartB14
