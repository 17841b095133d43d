set_option linter.unusedVariables false
universe u v w u_1 u_2 u_3 u_4
namespace Go
theorem ac : ∀ {α : Type u_1} {β : Type u_2} {as : List α} (f : α → β), (List.map f as).length = as.length := @List.length_map
theorem ad : ∀ (n : Nat), (n : Int).toNat = n := @Int.toNat_natCast
theorem ae : ∀ {α : Type u_1} {a : α} {as : List α}, (a :: as).length = as.length + (1 : Nat) := @List.length_cons
theorem af : ∀ {α : Type u_1} {a : α} {n : Nat}, List.replicate (n + (1 : Nat)) a = a :: List.replicate n a := @List.replicate_succ
theorem ag : ∀ {α : Type u_1} {a : α}, List.replicate (0 : Nat) a = [] := @List.replicate_zero
theorem ah : ∀ {α : Type u_1} {a : α} {as bs : List α}, a :: as ++ bs = a :: (as ++ bs) := @List.cons_append
theorem aj : ∀ {α : Type u_1}, ([] : List α).length = 0 := @List.length_nil
theorem ak : ∀ {α : Type u_1} (as : List α), [] ++ as = as := @List.nil_append
theorem ap : ∀ {α : Type u_1} {l : List α} {i : Nat} (h : i < l.length), l[i]? = Option.some l[i] := @List.getElem?_eq_getElem
theorem aq : ∀ {α : Type u_1} {l₁ l₂ : List α} {i : Nat}, i < l₁.length → (l₁ ++ l₂)[i]? = l₁[i]? := @List.getElem?_append_left
theorem au : ∀ {α : Type u_1} {l : List α} {i : Nat} {a : α}, l.getD i a = l[i]?.getD a := @List.getD_eq_getElem?_getD
theorem av : ∀ {p : Prop} [inst : Decidable p], (Decidable.decide p = Bool.true) = p := @decide_eq_true_eq
theorem ay : ∀ {p : Prop} {x : Decidable p}, Decidable.decide p = Bool.false ↔ ¬p := @decide_eq_false_iff_not
theorem az : ∀ {α : Type u_1} {l₁ l₂ : List α} {i : Nat}, l₁.length ≤ i → (l₁ ++ l₂)[i]? = l₂[i - l₁.length]? := @List.getElem?_append_right
theorem aA : ∀ {α : Type u_1} {i : Nat} {a : α} {l : List α}, l[i]? = Option.some a ↔ ∃ (h : i < l.length), l[i] = a := @List.getElem?_eq_some_iff
theorem aB : ∀ (a b : Bool), ((a && b) = Bool.true) = (a = Bool.true ∧ b = Bool.true) := @Bool.and_eq_true
theorem aC : ∀ (n m : Nat), n < m ∨ n ≥ m := @Nat.lt_or_ge
theorem aD : ∀ {α : Type u_1} {l : List α} {i j : Nat}, i ≠ j → ∀ {a : α}, (l.set i a)[j]? = l[j]? := @List.getElem?_set_ne
theorem aE : ∀ (n : Nat), n ≤ n := @Nat.le_refl
theorem aF : ∀ {α : Type u_1} {as bs : List α}, (as ++ bs).length = as.length + bs.length := @List.length_append
theorem aH : ∀ {α : Type u_1} {as : List α} {i : Nat} {a : α}, (as.set i a).length = as.length := @List.length_set
theorem aI : ∀ {α : Type u_1} {β : Type u_2} {b : β} {f : α → β} {l : List α}, b ∈ List.map f l ↔ ∃ (a : α), a ∈ l ∧ f a = b := @List.mem_map
theorem aJ : ∀ {α : Type u_1} {β : Type u_2} {f : α → β} {l₁ l₂ : List α}, List.map f (l₁ ++ l₂) = List.map f l₁ ++ List.map f l₂ := @List.map_append
theorem aK : ∀ {α : Type u_1} {i : Nat} {l : List α}, l.length ≤ i → List.take i l = l := @List.take_of_length_le
theorem aM : ∀ {α : Type u_1} {β : Type u_2} {f : α → β} {a : α} {l : List α}, List.map f (a :: l) = f a :: List.map f l := @List.map_cons
theorem aN : ∀ {α : Type u_1} {β : Type u_2} {f : α → β} {l : List α} {i : Nat}, (List.map f l)[i]? = Option.map f l[i]? := @List.getElem?_map
theorem aP : ∀ {α : Type u_1} {i : Nat} {l : List α}, (List.take i l).length = Min.min i l.length := @List.length_take
theorem aR : ∀ {α : Type u_1} {l : List α} {i j : Nat} {a : α}, (l.set i a)[j]? = if i = j then if i < l.length then Option.some a else Option.none else l[j]? := @List.getElem?_set
theorem aT : ∀ {α : Type u_1} {l : List α} {i : Nat} {a : α}, i < l.length → (l.set i a)[i]? = Option.some a := @List.getElem?_set_self
theorem aU : ∀ {α : Type u_1} (as bs cs : List α), as ++ bs ++ cs = as ++ (bs ++ cs) := @List.append_assoc
theorem aV : ∀ {α : Type u_1} {b : α} {l : List α} {a : α}, a ∈ b :: l ↔ a = b ∨ a ∈ l := @List.mem_cons
theorem aW : ∀ {α : Type u_1} {a : α} {s t : List α}, a ∈ s ++ t ↔ a ∈ s ∨ a ∈ t := @List.mem_append
theorem aZ : ∀ {α : Type u_1} {p : α → Bool} {l : List α}, l.all p = Bool.true ↔ ∀ (x : α), x ∈ l → p x = Bool.true := @List.all_eq_true
theorem bh : ∀ {α : Type u_1} {l : List α} {i : Nat} {a : α}, l[i]? = Option.some a → a ∈ l := @List.mem_of_getElem?
theorem bi : ∀ {α : Type u_1} {a : α}, ¬a ∈ [] := @List.not_mem_nil
theorem bj : ∀ {α : Type u_1} {b : α} {α_1 : Type u_2} {x : Option α_1} {f : α_1 → α}, Option.map f x = Option.some b ↔ ∃ (a : α_1), x = Option.some a ∧ f a = b := @Option.map_eq_some_iff
theorem bk : ∀ (n m : Nat), n + m - n = m := @Nat.add_sub_cancel_left
theorem bm : ∀ {α : Type u_1} {l : List α} {i : Nat}, l.length ≤ i → l[i]? = Option.none := @List.getElem?_eq_none
theorem bq : ∀ {α : Type u_1} {β : Type u_2} {f : α → β}, List.map f [] = [] := @List.map_nil
theorem br : ∀ (n : Nat), n * (1 : Nat) = n := @Nat.mul_one
theorem bt : ∀ {α : Type u_1} (as : List α), as ++ [] = as := @List.append_nil
theorem bz : ∀ {α : Type u_1} {l : List α}, l.length = (0 : Nat) → l = [] := @List.eq_nil_of_length_eq_zero
theorem bA : ∀ {x y : Bool}, (x || y) = Bool.false ↔ x = Bool.false ∧ y = Bool.false := @Bool.or_eq_false_iff
theorem bB : ∀ {α : Type u_1} {l : List α}, List.take l.length l = l := @List.take_length
theorem bE : ∀ {α : Type u_1} {xs : List α} {i j : Nat}, (List.drop i xs)[j]? = xs[i + j]? := @List.getElem?_drop
theorem bF : ∀ {α : Type u_1} {a : α} {l : List α}, a ∈ l → ∃ (i : Nat), ∃ (h : i < l.length), l[i] = a := @List.getElem_of_mem
theorem bI : ∀ {α : Type u_1} {l : List α} {n : Nat} (h : n < l.length), l[n] ∈ l := @List.getElem_mem
theorem bJ : ∀ {α : Type u_1} {β : Type u_2} (a : α) (f : α → β), Option.map f (Option.some a) = Option.some (f a) := @Option.map_some
theorem bL : ∀ {α : Type u_1} {l : List α} {i j : Nat}, i < j → (List.take j l)[i]? = l[i]? := @List.getElem?_take_of_lt
theorem bP : ∀ {α : Type u_1} {xs : Array α} {i : Nat}, xs.toList[i]? = xs[i]? := @Array.getElem?_toList
theorem bQ : ∀ (b : Bool), ((!b) = Bool.true) = (b = Bool.false) := @Bool.not_eq_true'
theorem bR : ∀ {α : Type u_1} (y : α) {a : α} {l : List α}, a ∈ l → a ∈ y :: l := @List.mem_cons_of_mem
theorem bV : ∀ {α : Type u_1} {x : Option α}, x.isSome = Bool.true ↔ ∃ (a : α), x = Option.some a := @Option.isSome_iff_exists
theorem bZ : Int.toNat (0 : Int) = (0 : Nat) := @Int.toNat_zero
theorem b9 : ∀ {α : Type u_1} {a b : α}, (Option.some a).getD b = a := @Option.getD_some
theorem ca : ∀ (b : Bool), (Bool.true && b) = b := @Bool.true_and
theorem cc : ∀ {α : Type u_1} {β : Type u_2} {a : α} {l : List α} {f : β → α → β} {b : β}, List.foldl f b (a :: l) = List.foldl f (f b a) l := @List.foldl_cons
theorem cd : ∀ (a b : Bool), ((a || b) = Bool.true) = (a = Bool.true ∨ b = Bool.true) := @Bool.or_eq_true
theorem cf : ∀ (n m k : Nat), n + m + k = n + (m + k) := @Nat.add_assoc
theorem cg : ∀ {α : Type u_1} [inst : BEq α] [LawfulBEq α] {a b : α}, (a == b) = Bool.true ↔ a = b := @beq_iff_eq
theorem ci : ∀ (n : Nat), (0 : Nat) + n = n := @Nat.zero_add
theorem ck : ∀ {α : Type u_1} [inst : BEq α] [LawfulBEq α] {a b : α}, (a == b) = Bool.false ↔ a ≠ b := @beq_eq_false_iff_ne
theorem cm : ∀ {α : Type u_1} {a b : α}, a ∈ [b] ↔ a = b := @List.mem_singleton
theorem ct : ∀ {α : Type u_1} (i : Nat) (l : List α), List.take i l ++ List.drop i l = l := @List.take_append_drop
theorem cv : ∀ (n : Nat), n = (0 : Nat) ∨ n > (0 : Nat) := @Nat.eq_zero_or_pos
theorem cy : ∀ {α : Type u_1} {a : α} {l : List α}, a ∈ a :: l := @List.mem_cons_self
theorem cz : ∀ {α : Type u_1} {l₁ l₂ : List α}, (∀ (i : Nat), l₁[i]? = l₂[i]?) → l₁ = l₂ := @List.ext_getElem?
theorem cA : ∀ {α : Type u_1} {a : α} {l : List α}, (a :: l)[(0 : Nat)]? = Option.some a := @List.getElem?_cons_zero
theorem cC : ∀ {a b : Nat}, a ≤ b → Min.min a b = a := @Nat.min_eq_left
theorem cE : ∀ {α : Type u_1} {l : List α} {i j : Nat}, (List.take i l)[j]? = if j < i then l[j]? else Option.none := @List.getElem?_take
theorem cF : ∀ (b : Bool), ((!b) = Bool.false) = (b = Bool.true) := @Bool.not_eq_false'
theorem cI : ∀ {α : Type u_1} {as : List α}, as.reverse.length = as.length := @List.length_reverse
theorem cL : ∀ {α : Type u_1} {i : Nat} {b : α} {xs : Array α}, xs[i]? = Option.some b ↔ ∃ (h : i < xs.size), xs[i] = b := @Array.getElem?_eq_some_iff
theorem cM : ∀ {α : Type u_1} {l : List α}, l.length = (0 : Nat) ↔ l = [] := @List.length_eq_zero_iff
theorem cN : ∀ {α : Type u_1} {a : α} {i : Nat} {l : List α}, (a :: l)[i + (1 : Nat)]? = l[i]? := @List.getElem?_cons_succ
theorem cP : ∀ {α : Type u_1} {β : Type u_2} {x : α} {xs : List α} {f : α → List β}, List.flatMap f (x :: xs) = f x ++ List.flatMap f xs := @List.flatMap_cons
theorem cQ : ∀ {n m k : Nat}, n < m → m ≤ k → n < k := @Nat.lt_of_lt_of_le
theorem cR : ∀ {α : Type u_1} {a : α} {l : List α}, (a :: l).Nodup ↔ ¬a ∈ l ∧ l.Nodup := @List.nodup_cons
theorem cV : ∀ {α : Type u_1} {a : α} {as : List α} (bs : List α), a ∈ as → a ∈ as ++ bs := @List.mem_append_left
theorem cW : ∀ {α : Type u_1} {l₁ l₂ : List α}, (l₁ ++ l₂).Nodup ↔ l₁.Nodup ∧ l₂.Nodup ∧ ∀ (a : α), a ∈ l₁ → ∀ (b : α), b ∈ l₂ → a ≠ b := @List.nodup_append
theorem cX : Bool.false ≠ Bool.true := @Bool.false_ne_true
theorem cY : ∀ {α : Type u_1} {xs : List α} {i : Nat}, xs.toArray[i]? = xs[i]? := @List.getElem?_toArray
theorem da : ∀ {α : Type u_1} {l : List α} {i : Nat} {a : α}, l.set i a = if i < l.length then List.take i l ++ a :: List.drop (i + (1 : Nat)) l else l := @List.set_eq_take_append_cons_drop
theorem dm : ∀ {α : Type u_1} {a : α} {l : List α}, a ∈ l ↔ ∃ (i : Nat), ∃ (h : i < l.length), l[i] = a := @List.mem_iff_getElem
theorem du : ∀ {α : Type u_1} {p : α → Bool} (l₁ l₂ : List α), List.filter p (l₁ ++ l₂) = List.filter p l₁ ++ List.filter p l₂ := @List.filter_append
theorem dv : ∀ {α : Type u_1} [inst : BEq α] [LawfulBEq α] {a : α} {as : List α}, as.contains a = Bool.true ↔ a ∈ as := @List.contains_iff_mem
theorem dw : ∀ {x y : Bool}, (x && y) = Bool.false ↔ x = Bool.false ∨ y = Bool.false := @Bool.and_eq_false_iff
theorem dz : ∀ {α : Type u_1} {l : List α} {α_1 : Type u_2} {f g : α → α_1}, (∀ (a : α), a ∈ l → f a = g a) → List.map f l = List.map g l := @List.map_congr_left
theorem dA : ∀ {α : Type u_1} {x : α} {xs : List α} {d : α}, (x :: xs).getD (0 : Nat) d = x := @List.getD_cons_zero
theorem dB : ∀ {α : Type u_1} {β : Type u_2} {xs ys : List α} {f : α → List β}, List.flatMap f (xs ++ ys) = List.flatMap f xs ++ List.flatMap f ys := @List.flatMap_append
theorem dC : ∀ {α : Type u_1} {xs ys : Array α}, (xs ++ ys).toList = xs.toList ++ ys.toList := @Array.toList_append
theorem dD : ∀ {a b : Bool}, a = b ↔ (a = Bool.true ↔ b = Bool.true) := @Bool.eq_iff_iff
theorem dG : ∀ {α : Type u_1} {β : Type u_2} {f : β → α → β} {b : β} {l l' : List α}, List.foldl f b (l ++ l') = List.foldl f (List.foldl f b l) l' := @List.foldl_append
theorem dH : ∀ {α : Type u_1} {a : α} {l : List α} {f : α → Bool}, (a :: l).all f = (f a && l.all f) := @List.all_cons
theorem dI : Int.toNat (1 : Int) = (1 : Nat) := @Int.toNat_one
theorem dJ : ∀ (b : Bool), (b && Bool.true) = b := @Bool.and_true
theorem dN : ∀ {α : Type u_1} {s t : List α} (i : Nat) (x : α), i < s.length → (s ++ t).set i x = s.set i x ++ t := @List.set_append_left
theorem dO : ∀ {α : Type u_1} {R : α → α → Prop} {l : List α}, List.Pairwise R l ↔ ∀ (i j : Nat) (_hi : i < l.length) (_hj : j < l.length), i < j → R l[i] l[j] := @List.pairwise_iff_getElem
theorem dR : ∀ {α : Type u_1} {a : α} {as : List α} {i : Nat}, List.take (i + (1 : Nat)) (a :: as) = a :: List.take i as := @List.take_succ_cons
theorem dS : ∀ {α : Type u_1} {b : α} (as : List α) {bs : List α}, b ∈ bs → b ∈ as ++ bs := @List.mem_append_right
theorem dT : ∀ {α : Type u_1} (a : α) {b : α} {l : List α} {i : Nat}, (l.set i a).set i b = l.set i b := @List.set_set
theorem dU : ∀ {p : Prop} [inst : Decidable p], p → Decidable.decide p = Bool.true := @decide_eq_true
theorem dV : ∀ {α : Type u_1} {l : List α}, List.take (0 : Nat) l = [] := @List.take_zero
theorem dW : ∀ {α : Type u_1} {i : Nat} {a : α} {l : List α}, a ∈ List.take i l → a ∈ l := @List.mem_of_mem_take
theorem dY : ∀ (n : Nat), n + (0 : Nat) = n := @Nat.add_zero
theorem dZ : ∀ {β : Type u_1} {γ : Type u_2} {α : Type u_3} {g : β → γ} {f : α → β} {l : List α}, List.map g (List.map f l) = List.map (g ∘ f) l := @List.map_map
theorem d7 : ∀ {α : Type u_1} {as : List α} {i : Nat}, as.length ≤ i → List.drop i as = [] := @List.drop_eq_nil_of_le
theorem d8 : ∀ {α : Type u_1} {p : α → Bool} {l : List α}, l.any p = Bool.true ↔ ∃ (x : α), x ∈ l ∧ p x = Bool.true := @List.any_eq_true
theorem eo : ∀ {n m : Nat}, ((2 : Nat) ^ n).testBit m = Decidable.decide (n = m) := @Nat.testBit_two_pow
theorem eu : ∀ {α : Type u_1} {a : α} {l : List α} {i : Nat}, List.drop (i + (1 : Nat)) (a :: l) = List.drop i l := @List.drop_succ_cons
theorem ez : ∀ {α : Type u_1} (p : α → Bool) (l : List α), (List.filter p l).length ≤ l.length := @List.length_filter_le
theorem eB : ∀ {α : Type u_1} {l : List α}, List.drop (0 : Nat) l = l := @List.drop_zero
theorem eC : (!Bool.false) = Bool.true := @Bool.not_false
theorem eF : ∀ {α : Type u_1} {a : α}, (Option.some a).isSome = Bool.true := @Option.isSome_some
theorem eG : (Bool.false = Bool.true) = False := @Bool.false_eq_true
theorem eS : ∀ (n : Nat), (1 : Nat) <<< n = (2 : Nat) ^ n := @Nat.one_shiftLeft
theorem eT : ∀ {m n : Nat}, m ∈ List.range n ↔ m < n := @List.mem_range
theorem eU : ∀ {α : Type u_1} {x : α} {xs : List α} {n : Nat} {d : α}, (x :: xs).getD (n + (1 : Nat)) d = xs.getD n d := @List.getD_cons_succ
theorem eY : ∀ {n : Nat}, List.range n.succ = List.range n ++ [n] := @List.range_succ
theorem eZ : ∀ {α : Type u_1} {p : α → Bool} {as : List α} {x : α}, x ∈ List.filter p as ↔ x ∈ as ∧ p x = Bool.true := @List.mem_filter
theorem fd : ∀ {α : Type u_1} {n : Nat} {a : α}, (List.replicate n a).length = n := @List.length_replicate
theorem ff : ∀ {α : Type u_1} {x : α} {xs : List α} {i : Nat} {a : α}, (x :: xs).set (i + (1 : Nat)) a = x :: xs.set i a := @List.set_cons_succ
theorem fj : ∀ (b : Bool), (Bool.false || b) = b := @Bool.false_or
theorem fp : ∀ {n m : Nat} (k : Nat), n ≤ m → n * k ≤ m * k := @Nat.mul_le_mul_right
theorem fq : ∀ {x y : Bool}, (x && y) = Bool.true ↔ x = Bool.true ∧ y = Bool.true := @Bool.and_eq_true_iff
theorem fw : ∀ {b : Bool}, b = Bool.false ↔ b ≠ Bool.true := @Bool.eq_false_iff
theorem fF : ∀ {α : Type u_1} {β : Type u_2} {f : α → β} {l : List α} {i : Nat} {a : α}, List.map f (l.set i a) = (List.map f l).set i (f a) := @List.map_set
theorem fG : ∀ {α : Type u_1} {xs : Array α} {i : Nat} {d : α}, xs.getD i d = xs[i]?.getD d := @Array.getD_eq_getD_getElem?
theorem fL : ∀ (n m k : Nat), (n + m) * k = n * k + m * k := @Nat.add_mul
theorem fP : ∀ (x y i : Nat), (x ||| y).testBit i = (x.testBit i || y.testBit i) := @Nat.testBit_or
theorem fQ : ∀ {α : Type u_1} {x : α} {xs : List α} {a : α}, (x :: xs).set (0 : Nat) a = a :: xs := @List.set_cons_zero
theorem fR : ∀ {α : Type u_1} {a b : α} {n : Nat}, b ∈ List.replicate n a ↔ n ≠ (0 : Nat) ∧ b = a := @List.mem_replicate
theorem fT : ∀ {α : Type u_1} {a : α} {l : List α}, a ∈ l ↔ ∃ (i : Nat), l[i]? = Option.some a := @List.mem_iff_getElem?
theorem f9 : ∀ {α : Type u_1} {β : Type u_2} {l₁ : List α} {l₂ : List β}, (l₁.zip l₂).length = Min.min l₁.length l₂.length := @List.length_zip
theorem gn : ∀ {n : Nat}, n > (0 : Nat) → ∀ {i j : Nat}, i ≤ j → n ^ i ≤ n ^ j := @Nat.pow_le_pow_right
theorem go : ∀ (a b : Nat), a < b ∨ a = b ∨ b < a := @Nat.lt_trichotomy
theorem gp : ∀ {α : Type u_1} {l : List α} {i : Nat}, List.take (i + (1 : Nat)) l = List.take i l ++ l[i]?.toList := @List.take_add_one
theorem gq : ∀ {α : Type u_1} {a : α} {i : Nat} {l : List α}, a ∈ List.drop i l → a ∈ l := @List.mem_of_mem_drop
theorem gJ : ∀ {α : Type u_1} {β : Type u_2} {f : α → List β} {b : β} {l : List α}, b ∈ List.flatMap f l ↔ ∃ (a : α), a ∈ l ∧ b ∈ f a := @List.mem_flatMap
theorem gK : ∀ {n : Nat} {α : Type u_1} {a : α} {i : Nat}, (List.replicate n a)[i]? = if i < n then Option.some a else Option.none := @List.getElem?_replicate
theorem gL : ∀ (b : Bool), (b && Bool.false) = Bool.false := @Bool.and_false
theorem gQ : ∀ (b : Bool), (Bool.true || b) = Bool.true := @Bool.true_or
theorem gY : ∀ {α : Type u_1} {β : Type u_2} {l : List α} {b : β}, List.map (fun (x : α) => b) l = List.replicate l.length b := @List.map_const'
theorem gZ : ∀ (p q : Prop) [dpq : Decidable (p ∧ q)] [dp : Decidable p] [dq : Decidable q], Decidable.decide (p ∧ q) = (Decidable.decide p && Decidable.decide q) := @Bool.decide_and
theorem g9 : (!Bool.true) = Bool.false := @Bool.not_true
theorem hH : ∀ (b : Bool), (b && b) = b := @Bool.and_self
theorem Er : ∀ {α : Type u_1} {s t : List α} (i : Nat) (x : α), s.length ≤ i → (s ++ t).set i x = s ++ t.set (i - s.length) x := @List.set_append_right
theorem Es : ∀ {n m k : Nat}, n ≤ m → m ≤ k → n ≤ k := @Nat.le_trans
theorem Et : ∀ (n : Nat), n - n = (0 : Nat) := @Nat.sub_self
theorem Ev : ∀ (a : Int) {b : Int}, (0 : Int) < b → a.tmod b < b := @Int.tmod_lt_of_pos
theorem Ew : ∀ (b : Bool), (Bool.false && b) = Bool.false := @Bool.false_and
theorem Ey : ∀ {α : Type u_1} [inst : Add α] [inst_1 : Zero α] {a : α} {l : List α}, (a :: l).sum = a + l.sum := @List.sum_cons
theorem Ez : ∀ {α : Type u_1} {l₁ l₂ : List α} {i : Nat}, l₁.length = i → List.drop i (l₁ ++ l₂) = l₂ := @List.drop_left'
theorem EA : ∀ {a : Int} (b : Int), (0 : Int) ≤ a → (0 : Int) ≤ a.tmod b := @Int.tmod_nonneg
theorem EC : ∀ {α : Type u_1} (a b : α) {i j : Nat} {l : List α}, i ≠ j → (l.set i a).set j b = (l.set j b).set i a := @List.set_comm
end Go
