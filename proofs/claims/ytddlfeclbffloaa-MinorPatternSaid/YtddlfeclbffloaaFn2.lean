/- What the functions answer that the statement reaches. No condition. -/
import Derived.Test.YtddlfeclbffloaaFn1
set_option linter.unusedVariables false
set_option linter.unusedSimpArgs false
namespace Go.Sh
/-! ### few edges, few vertices -/
theorem nodup_lenG {α : Type} [DecidableEq α] {l : List α} : ∀ {m : List α}, l.Nodup → (∀ x ∈ l, x ∈ m) → l.length ≤ m.length := by
  induction l with
  | nil => intro m _ _; simp
  | cons x l ih =>
    intro m h s
    rw [List.nodup_cons] at h
    have hx := s x (by simp)
    have := ih (m := m.erase x) h.2 fun y hy => (List.mem_erase_of_ne (fun (e : y = x) => h.1 (by rw [← e]; exact hy))).2 (s y (by simp [hy]))
    rw [List.length_erase_of_mem hx] at this
    have := List.length_pos_of_mem hx
    simp; omega
theorem disj_at {S : List (List Int)} (h : S.flatten.Nodup) {i j : Nat} {a b : List Int} (ha : S[i]? = some a) (hb : S[j]? = some b) {v : Int} (va : v ∈ a) (vb : v ∈ b) : i = j := by
  rw [List.Nodup, List.pairwise_flatten] at h
  obtain ⟨hi, ea⟩ := List.getElem?_eq_some_iff.1 ha
  obtain ⟨hj, eb⟩ := List.getElem?_eq_some_iff.1 hb
  rcases Nat.lt_trichotomy i j with hlt | e | hlt
  · have := List.pairwise_iff_getElem.1 h.2 i j hi hj hlt
    rw [ea, eb] at this
    exact absurd rfl (this v va v vb)
  · exact e
  · have := List.pairwise_iff_getElem.1 h.2 j i hj hi hlt
    rw [ea, eb] at this
    exact absurd rfl (this v vb v va)
theorem mem_setAt {S : List (List Int)} {i : Int} {v : Int} (h : v ∈ setAt S i) : ∃ l, S[i.toNat]? = some l ∧ v ∈ l := by
  unfold setAt at h
  rw [List.getD_eq_getElem?_getD] at h
  cases hs : S[i.toNat]? with
  | none => rw [hs] at h; simp at h
  | some l => rw [hs] at h; exact ⟨l, rfl, h⟩
theorem setAt_disj {S : List (List Int)} (h : S.flatten.Nodup) {i j v : Int} (h0 : 0 ≤ i) (h1 : 0 ≤ j) (vi : v ∈ setAt S i) (vj : v ∈ setAt S j) : i = j := by
  obtain ⟨a, ha, va⟩ := mem_setAt vi
  obtain ⟨b, hb, vb⟩ := mem_setAt vj
  have := disj_at h ha hb va vb
  omega
theorem tch_inj {S : List (List Int)} (h : S.flatten.Nodup) {q r x : Ed} (q0 : 0 ≤ q.1) (q1 : q.1 < q.2) (r0 : 0 ≤ r.1) (r1 : r.1 < r.2) (hq : tch (setAt S q.1) (setAt S q.2) x = true) (hr : tch (setAt S r.1) (setAt S r.2) x = true) : q = r := by
  simp only [tch, Bool.or_eq_true, Bool.and_eq_true, List.elem_eq_mem, decide_eq_true_eq] at hq hr
  have d := @setAt_disj S h
  obtain ⟨a, b⟩ := q
  obtain ⟨c, e⟩ := r
  dsimp only at *
  rcases hq with ⟨h1, h2⟩ | ⟨h1, h2⟩ <;> rcases hr with ⟨h3, h4⟩ | ⟨h3, h4⟩
  · rw [d q0 r0 h1 h3, d (by omega) (by omega) h2 h4]
  · have := d q0 (by omega) h1 h3
    have := d (by omega) r0 h2 h4
    omega
  · have := d (by omega) r0 h1 h3
    have := d q0 (by omega) h2 h4
    omega
  · rw [d (by omega) (by omega) h1 h3, d q0 r0 h2 h4]
theorem pat_six {k : Int} (h : (patG k).1 ≠ 0) : (patG k).2.length = 6 ∧ (patG k).2.Nodup := by
  rcases patG_cases k with ⟨_, e⟩ | ⟨_, e⟩ | ⟨_, _, e⟩ <;> rw [e] at h ⊢
  · decide
  · decide
  · exact absurd rfl h
theorem chk_edges {n : Int} {E : List Ed} {k : Int} {S : List (List Int)} (h : CheckP n E k S) : 6 ≤ E.length := by
  obtain ⟨_, h2, _, _, h5, h6⟩ := h
  obtain ⟨h7, h8⟩ := pat_six h2
  obtain ⟨_, _, _, h9⟩ := patG_ok k
  have hx : ∀ q ∈ (patG k).2, ∃ x, x ∈ E ∧ tch (setAt S q.1) (setAt S q.2) x = true := fun q hq => List.any_eq_true.1 (h6 q hq)
  obtain ⟨g, hg⟩ : ∃ g : Ed → Ed, ∀ q ∈ (patG k).2, g q ∈ E ∧ tch (setAt S q.1) (setAt S q.2) (g q) = true := by
    classical
    refine ⟨fun q => if h : q ∈ (patG k).2 then Classical.choose (hx q h) else q, fun q hq => ?_⟩
    simp only [dif_pos hq]
    exact Classical.choose_spec (hx q hq)
  have hnd : ((patG k).2.map g).Nodup := by
    rw [List.Nodup, List.pairwise_map]
    refine List.Pairwise.imp_of_mem (fun {a b} ha hb hab e => ?_) h8
    have h1 := hg a ha
    have h2 := hg b hb
    rw [← e] at h2
    obtain ⟨a0, a1, _⟩ := h9 a ha
    obtain ⟨b0, b1, _⟩ := h9 b hb
    exact hab (tch_inj h5 a0 a1 b0 b1 h1.2 h2.2)
  have := nodup_lenG hnd fun x hx => by
    obtain ⟨q, hq, rfl⟩ := List.mem_map.1 hx
    exact (hg q hq).1
  rw [List.length_map, h7] at this
  exact this
theorem range_len {n : Int} {l : List Int} (h : l.Nodup) (hr : ∀ v ∈ l, 0 ≤ v ∧ v < n) : l.length ≤ n.toNat := by
  have := nodup_lenG (m := (List.range n.toNat).map fun (i : Nat) => (i : Int)) h fun v hv => by
    have := hr v hv
    exact List.mem_map.2 ⟨v.toNat, List.mem_range.2 (by omega), by omega⟩
  simpa using this
theorem chk_n {n : Int} {E : List Ed} {k : Int} {S : List (List Int)} (h : CheckP n E k S) : (patG k).1 ≤ n := by
  obtain ⟨⟨hn, _⟩, h2, h3, h4, h5, _⟩ := h
  have hne : ∀ l ∈ S, l ≠ [] := fun l hl => (h4 l hl).2.1
  have hnd : (S.map fun l => l.headD 0).Nodup := by
    rw [List.Nodup, List.pairwise_map]
    have h5' := h5
    rw [List.Nodup, List.pairwise_flatten] at h5'
    refine List.Pairwise.imp_of_mem (fun {a b} ha hb hab => ?_) h5'.2
    have ma : a.headD 0 ∈ a := by cases a with | nil => exact absurd rfl (hne _ ha) | cons x a => simp
    have mb : b.headD 0 ∈ b := by cases b with | nil => exact absurd rfl (hne _ hb) | cons x a => simp
    exact hab _ ma _ mb
  have := range_len (n := n) hnd fun v hv => by
    obtain ⟨l, hl, rfl⟩ := List.mem_map.1 hv
    have ml : l.headD 0 ∈ l := by cases l with | nil => exact absurd rfl (hne _ hl) | cons x a => simp
    exact (h4 l hl).2.2.2.1 _ ml
  rw [List.length_map] at this
  omega
theorem right_take {n : Int} {E : List Ed} (h : RightP n E) (m : Nat) : RightP n (E.take m) :=
  ⟨h.1, h.2.1, by have := h.2.2.1; rw [List.length_take]; omega, fun p hp => h.2.2.2.1 p (List.mem_of_mem_take hp), h.2.2.2.2.sublist (List.take_sublist m E)⟩
theorem right4 {E : List Ed} (h : RightP 4 E) : E.length ≤ 6 := by
  have := nodup_lenG (m := [(0, 1), (0, 2), (0, 3), (1, 2), (1, 3), (2, 3)]) (h.2.2.2.2.imp ltE_ne) fun x hx => by
    obtain ⟨h1, h2, h3⟩ := h.2.2.2.1 x hx
    obtain ⟨a, b⟩ := x
    dsimp only at h1 h2 h3
    simp only [List.mem_cons, Prod.mk.injEq, List.not_mem_nil, or_false]
    omega
  simpa using this
theorem chk_few {n : Int} {E : List Ed} {k : Int} {S : List (List Int)} : ¬ CheckP n (E.take 5) k S := fun h => by
  have := chk_edges h
  rw [List.length_take] at this
  omega
theorem cut_tiny (S : List (List Int)) : tiny (cutSets S) := by
  refine ⟨by simp [cutSets]; omega, fun l hl => ?_⟩
  obtain ⟨m, _, rfl⟩ := List.mem_map.1 hl
  simp; omega
theorem cut_small (S : List (List Int)) : small (cutSets S) := by
  refine ⟨by simp [cutSets]; omega, fun l hl => ?_⟩
  obtain ⟨m, _, rfl⟩ := List.mem_map.1 hl
  simp; omega
end Go.Sh

set_option linter.unusedVariables false
set_option linter.unusedSimpArgs false
namespace Go.Sh
/-! ### graphs as rows of bits: what one comes to by deletions and contractions -/
def up1 (v i : Nat) : Nat := if i < v then i else i + 1
def lessX (x v : Nat) : Nat := (x &&& (2 ^ v - 1)) ||| ((x >>> (v + 1)) <<< v)
theorem lessX_bit (x v i : Nat) : (lessX x v).testBit i = x.testBit (up1 v i) := by
  unfold lessX up1
  rw [Nat.testBit_or, Nat.testBit_and, Nat.testBit_two_pow_sub_one, Nat.testBit_shiftLeft, Nat.testBit_shiftRight]
  by_cases h : i < v
  · rw [if_pos h]
    have : ¬ i ≥ v := by omega
    simp [h, this]
  · rw [if_neg h]
    have : i ≥ v := by omega
    simp [h, this]
    congr 1
    omega
def lessL (r : List Nat) (v : Nat) : List Nat := (r.eraseIdx v).map (lessX · v)
def offX (x y : Nat) : Nat := x ^^^ (x &&& y)
def mergeX (r : List Nat) (a b i x : Nat) : Nat := if i = a then offX (r.getD a 0 ||| r.getD b 0) (2 ^ a ||| 2 ^ b) else if x.testBit b then x ||| 2 ^ a else x
def mergeL (r : List Nat) (a b : Nat) : List Nat := (List.range r.length).map fun i => mergeX r a b i (r.getD i 0)
def mergedL (r : List Nat) (a b : Nat) : List Nat := lessL (mergeL r a b) b
def bitL (r : List Nat) (a b : Nat) : Bool := (r.getD a 0).testBit b
def isB (r : List Nat) (p q : Nat) : Bool := (r.getD p 0 &&& offX 31 (2 ^ p ||| 2 ^ q) == offX 31 (2 ^ p ||| 2 ^ q)) && (r.getD q 0 &&& offX 31 (2 ^ p ||| 2 ^ q) == offX 31 (2 ^ p ||| 2 ^ q))
def isL (r : List Nat) (k : Int) : Bool :=
  if k = 1 then (r.getD 0 0 ||| 1 == 15) && (r.getD 1 0 ||| 2 == 15) && (r.getD 2 0 ||| 4 == 15) && (r.getD 3 0 ||| 8 == 15)
  else (List.range 5).any fun p => (List.range p).any fun q => isB r p q
def sizeN (k : Int) : Nat := (patG k).1.toNat
def comesL : Nat → List Nat → Int → Bool
  | 0, r, k => decide (r.length = sizeN k) && isL r k
  | f + 1, r, k => if r.length ≤ sizeN k then decide (r.length = sizeN k) && isL r k else
    ((List.range r.length).any fun a => (List.range r.length).any fun b => decide (a < b) && (bitL r a b && comesL f (mergedL r a b) k)) || (List.range r.length).any fun v => comesL f (lessL r v) k
def hasL (r : List Nat) (k : Int) : Bool := comesL r.length r k
theorem lessL_length {r : List Nat} {v : Nat} (h : v < r.length) : (lessL r v).length = r.length - 1 := by
  unfold lessL
  rw [List.length_map, List.length_eraseIdx_of_lt h]
theorem mergeL_length (r : List Nat) (a b : Nat) : (mergeL r a b).length = r.length := by simp [mergeL]
theorem mergedL_length {r : List Nat} {a b : Nat} (h : b < r.length) : (mergedL r a b).length = r.length - 1 := by
  unfold mergedL
  rw [lessL_length (by rw [mergeL_length]; exact h), mergeL_length]
theorem up1_ne (v i : Nat) : up1 v i ≠ v := by unfold up1; split <;> omega
theorem up1_lt {v i n : Nat} (h : i < n - 1) : up1 v i < n := by unfold up1; split <;> omega
def dn1 (v i : Nat) : Nat := if i < v then i else i - 1
theorem up_dn {v i : Nat} (h : i ≠ v) : up1 v (dn1 v i) = i := by
  unfold up1 dn1
  by_cases h1 : i < v
  · rw [if_pos h1, if_pos h1]
  · rw [if_neg h1, if_neg (by omega)]; omega
theorem dn_lt {v i n : Nat} (h : i ≠ v) (hv : v < n) (hi : i < n) : dn1 v i < n - 1 := by unfold dn1; split <;> omega
theorem up_inj {v i j : Nat} (h : up1 v i = up1 v j) : i = j := by unfold up1 at h; split at h <;> split at h <;> omega
theorem lessL_getD (r : List Nat) (v i : Nat) : (lessL r v).getD i 0 = lessX (r.getD (up1 v i) 0) v := by
  have z : lessX 0 v = 0 := by simp [lessX]
  unfold lessL up1
  rw [List.getD_eq_getElem?_getD, List.getElem?_map, List.getElem?_eraseIdx, List.getD_eq_getElem?_getD]
  split
  · cases r[i]? with
    | none => simp [z]
    | some x => simp
  · cases r[i + 1]? with
    | none => simp [z]
    | some x => simp
theorem bit_less (r : List Nat) (v i j : Nat) : bitL (lessL r v) i j = bitL r (up1 v i) (up1 v j) := by
  unfold bitL
  rw [lessL_getD, lessX_bit]
/-- rows of bits of a graph -/
structure Sq (r : List Nat) : Prop where
  bnd : ∀ a b, bitL r a b = true → b < r.length
  sym : ∀ a b, bitL r a b = true → bitL r b a = true
  irr : ∀ a, bitL r a a = false
theorem Sq.lt {r : List Nat} (h : Sq r) {a b : Nat} (hb : bitL r a b = true) : a < r.length := h.bnd _ _ (h.sym _ _ hb)
theorem off_bit (x y j : Nat) : (offX x y).testBit j = (x.testBit j && !y.testBit j) := by
  unfold offX
  rw [Nat.testBit_xor, Nat.testBit_and]
  cases x.testBit j <;> cases y.testBit j <;> rfl
theorem off2_bit (x a b j : Nat) : (offX x (2 ^ a ||| 2 ^ b)).testBit j = true ↔ x.testBit j = true ∧ j ≠ a ∧ j ≠ b := by
  rw [off_bit, Nat.testBit_or, Nat.testBit_two_pow, Nat.testBit_two_pow]
  simp only [Bool.and_eq_true, Bool.not_eq_true', Bool.or_eq_false_iff, decide_eq_false_iff_not]
  constructor
  · rintro ⟨h1, h2, h3⟩; exact ⟨h1, fun e => h2 e.symm, fun e => h3 e.symm⟩
  · rintro ⟨h1, h2, h3⟩; exact ⟨h1, fun e => h2 e.symm, fun e => h3 e.symm⟩
theorem mergeL_getD (r : List Nat) (a b i : Nat) (h : i < r.length) : (mergeL r a b).getD i 0 = mergeX r a b i (r.getD i 0) := by
  unfold mergeL
  rw [List.getD_eq_getElem?_getD, List.getElem?_map, List.getElem?_range h]; rfl
theorem getD_out {r : List Nat} {i : Nat} (h : ¬ i < r.length) : r.getD i 0 = 0 := by
  rw [List.getD_eq_getElem?_getD, List.getElem?_eq_none (by omega)]; rfl
theorem bit_merge {r : List Nat} {a b i j : Nat} (h : i < r.length) : bitL (mergeL r a b) i j = true ↔ (i = a ∧ (bitL r a j = true ∨ bitL r b j = true) ∧ j ≠ a ∧ j ≠ b) ∨ (i ≠ a ∧ (bitL r i j = true ∨ (bitL r i b = true ∧ j = a))) := by
  unfold bitL
  rw [mergeL_getD _ _ _ _ h]
  unfold mergeX
  by_cases ha : i = a
  · rw [if_pos ha, off2_bit, Nat.testBit_or]
    simp [ha]
  · rw [if_neg ha]
    split
    · rename_i hb
      rw [Nat.testBit_or, Nat.testBit_two_pow]
      simp only [Bool.or_eq_true, decide_eq_true_eq, ha, false_and, false_or, not_false_eq_true, true_and, hb, ne_eq]
      constructor
      · rintro (h | h)
        · exact .inl h
        · exact .inr h.symm
      · rintro (h | h)
        · exact .inl h
        · exact .inr h.symm
    · rename_i hb
      constructor
      · intro h2; exact .inr ⟨ha, .inl h2⟩
      · rintro (⟨h2, _⟩ | ⟨_, h2 | ⟨h2, _⟩⟩)
        · exact absurd h2 ha
        · exact h2
        · exact absurd h2 hb
/-- neighbours, when b has become a -/
def mAdj (r : List Nat) (a b x y : Nat) : Prop := (x = a ∧ (bitL r a y = true ∨ bitL r b y = true) ∧ y ≠ a ∧ y ≠ b) ∨ (x ≠ a ∧ (bitL r x y = true ∨ (bitL r x b = true ∧ y = a)))
theorem bit_merged {r : List Nat} {a b i j : Nat} (h : i < r.length - 1) : bitL (mergedL r a b) i j = true ↔ mAdj r a b (up1 b i) (up1 b j) := by
  unfold mergedL
  rw [bit_less, bit_merge (up1_lt h)]; rfl
theorem bit_len {r : List Nat} {a b : Nat} (h : bitL r a b = true) : a < r.length := by
  apply Classical.byContradiction
  intro hn
  unfold bitL at h
  rw [getD_out hn] at h
  simp at h
theorem Sq.less {r : List Nat} (h : Sq r) {v : Nat} (hv : v < r.length) : Sq (lessL r v) := by
  refine ⟨fun a b hb => ?_, fun a b hb => ?_, fun a => ?_⟩
  · rw [bit_less] at hb
    have := h.bnd _ _ hb
    rw [lessL_length hv]
    unfold up1 at this
    split at this <;> omega
  · rw [bit_less] at hb ⊢; exact h.sym _ _ hb
  · rw [bit_less]; exact h.irr _
theorem Sq.merged {r : List Nat} (h : Sq r) {a b : Nat} (ha : a < b) (hb : b < r.length) : Sq (mergedL r a b) := by
  have hl := mergedL_length (a := a) hb
  have key : ∀ i j, bitL (mergedL r a b) i j = true → i < r.length - 1 ∧ mAdj r a b (up1 b i) (up1 b j) := fun i j hij => by
    have hi := bit_len hij
    rw [hl] at hi
    exact ⟨hi, (bit_merged hi).1 hij⟩
  have sm : ∀ x y, x ≠ b → y ≠ b → mAdj r a b x y → mAdj r a b y x := fun x y hx hy hm => by
    rcases hm with ⟨rfl, h1, h2, h3⟩ | ⟨h1, h2⟩
    · refine .inr ⟨h2, ?_⟩
      rcases h1 with h1 | h1
      · exact .inl (h.sym _ _ h1)
      · exact .inr ⟨h.sym _ _ h1, rfl⟩
    · by_cases e : y = a
      · subst e
        refine .inl ⟨rfl, ?_, h1, hx⟩
        rcases h2 with h2 | ⟨h2, _⟩
        · exact .inl (h.sym _ _ h2)
        · exact .inr (h.sym _ _ h2)
      · refine .inr ⟨e, .inl ?_⟩
        rcases h2 with h2 | ⟨_, h2⟩
        · exact h.sym _ _ h2
        · exact absurd h2 e
  have bd : ∀ i j, mAdj r a b (up1 b i) (up1 b j) → j < r.length - 1 := fun i j hm => by
    have : up1 b j < r.length := by
      rcases hm with ⟨_, h1 | h1, _⟩ | ⟨_, h1 | ⟨_, h1⟩⟩
      · exact h.bnd _ _ h1
      · exact h.bnd _ _ h1
      · exact h.bnd _ _ h1
      · omega
    unfold up1 at this
    split at this <;> omega
  refine ⟨fun i j hij => ?_, fun i j hij => ?_, fun i => ?_⟩
  · rw [hl]; exact bd _ _ (key _ _ hij).2
  · obtain ⟨hi, hm⟩ := key _ _ hij
    exact (bit_merged (bd _ _ hm)).2 (sm _ _ (up1_ne _ _) (up1_ne _ _) hm)
  · cases hc : bitL (mergedL r a b) i i with
    | false => rfl
    | true =>
      obtain ⟨hi, hm⟩ := key _ _ hc
      rcases hm with ⟨h1, _, h2, _⟩ | ⟨h1, h2 | ⟨_, h2⟩⟩
      · exact absurd h1 h2
      · rw [h.irr] at h2; cases h2
      · exact absurd h2 h1
/-- a model, as colours of the vertices: each colour below m is there, hangs together, and those of the pattern's pairs touch -/
structure Mod (r : List Nat) (m : Nat) (pat : List (Nat × Nat)) (c : Nat → Nat) : Prop where
  some : ∀ i, i < m → ∃ x, x < r.length ∧ c x = i
  conn : ∀ i, i < m → ∀ P : Nat → Prop, (∃ x, x < r.length ∧ c x = i ∧ P x) → (∀ x y, c x = i → c y = i → bitL r x y = true → P x → P y) → ∀ x, x < r.length → c x = i → P x
  meet : ∀ q ∈ pat, ∃ x y, bitL r x y = true ∧ c x = q.1 ∧ c y = q.2
theorem Mod.less {r : List Nat} {m : Nat} {pat : List (Nat × Nat)} {c : Nat → Nat} (h : Mod r m pat c) (hp : ∀ q ∈ pat, q.1 < m ∧ q.2 < m ∧ q.1 ≠ q.2) {v : Nat} (hv : v < r.length) (hc : m ≤ c v) : Mod (lessL r v) m pat fun i => c (up1 v i) := by
  have hl := lessL_length hv
  refine ⟨fun i hi => ?_, fun i hi P hP hcl x hx hcx => ?_, fun q hq => ?_⟩
  · obtain ⟨x, h1, h2⟩ := h.some i hi
    have hx : x ≠ v := fun e => by subst e; omega
    exact ⟨dn1 v x, by rw [hl]; exact dn_lt hx hv h1, by rw [up_dn hx]; exact h2⟩
  · have := h.conn i hi (fun x => ∃ y, up1 v y = x ∧ P y) ?_ ?_ (up1 v x) (by rw [hl] at hx; exact up1_lt hx) hcx
    · obtain ⟨y, h1, h2⟩ := this
      rw [← up_inj h1]; exact h2
    · obtain ⟨x, h1, h2, h3⟩ := hP
      exact ⟨up1 v x, by rw [hl] at h1; exact up1_lt h1, h2, x, rfl, h3⟩
    · rintro x y cx cy hb ⟨x', rfl, hPx⟩
      have hy : y ≠ v := fun e => by subst e; omega
      refine ⟨dn1 v y, up_dn hy, hcl x' _ cx (by rw [up_dn hy]; exact cy) ?_ hPx⟩
      rw [bit_less, up_dn hy]; exact hb
  · obtain ⟨x, y, h1, h2, h3⟩ := h.meet q hq
    have hx : x ≠ v := fun e => by subst e; have := hp q hq; omega
    have hy : y ≠ v := fun e => by subst e; have := hp q hq; omega
    exact ⟨dn1 v x, dn1 v y, by rw [bit_less, up_dn hx, up_dn hy]; exact h1, by rw [up_dn hx]; exact h2, by rw [up_dn hy]; exact h3⟩
/-- where a vertex goes, when b becomes a -/
def toM (a b x : Nat) : Nat := if x = b then a else dn1 b x
theorem Mod.merged {r : List Nat} {m : Nat} {pat : List (Nat × Nat)} {c : Nat → Nat} (hs : Sq r) (h : Mod r m pat c) (hp : ∀ q ∈ pat, q.1 < m ∧ q.2 < m ∧ q.1 ≠ q.2) {a b : Nat} (ha : a < b) (hb : b < r.length) (hc : c a = c b) : Mod (mergedL r a b) m pat fun i => c (up1 b i) := by
  have hl := mergedL_length (a := a) hb
  have up_a : up1 b a = a := by unfold up1; rw [if_pos ha]
  have cT : ∀ x, c (up1 b (toM a b x)) = c x := fun x => by
    unfold toM
    split
    · rename_i e; rw [up_a, e, hc]
    · rename_i e; rw [up_dn e]
  have lT : ∀ x, x < r.length → toM a b x < r.length - 1 := fun x hx => by
    unfold toM
    split
    · omega
    · rename_i e; exact dn_lt e hb hx
  have uT : ∀ x, toM a b (up1 b x) = x := fun x => by
    unfold toM
    rw [if_neg (up1_ne _ _)]
    exact up_inj (up_dn (up1_ne _ _))
  have bT : ∀ x y, bitL r x y = true → toM a b x = toM a b y ∨ bitL (mergedL r a b) (toM a b x) (toM a b y) = true := fun x y hxy => by
    by_cases e : toM a b x = toM a b y
    · exact .inl e
    refine .inr ((bit_merged (lT x (hs.lt hxy))).2 ?_)
    by_cases hx : x = b
    · subst hx
      have ex : up1 x (toM a x x) = a := by unfold toM; rw [if_pos rfl, up_a]
      have hy : y ≠ x := fun h => e (by rw [h])
      have ey : up1 x (toM a x y) = y := by unfold toM; rw [if_neg hy, up_dn hy]
      rw [ex, ey]
      refine .inl ⟨rfl, .inr hxy, fun h => e ?_, hy⟩
      have : up1 x (toM a x x) = up1 x (toM a x y) := by rw [ex, ey, h]
      exact up_inj this
    · have ex : up1 b (toM a b x) = x := by unfold toM; rw [if_neg hx, up_dn hx]
      by_cases hy : y = b
      · subst hy
        have ey : up1 y (toM a y y) = a := by unfold toM; rw [if_pos rfl, up_a]
        rw [ex, ey]
        refine .inr ⟨fun h => e ?_, .inr ⟨hxy, rfl⟩⟩
        have : up1 y (toM a y x) = up1 y (toM a y y) := by rw [ex, ey, h]
        exact up_inj this
      · have ey : up1 b (toM a b y) = y := by unfold toM; rw [if_neg hy, up_dn hy]
        rw [ex, ey]
        by_cases hxa : x = a
        · subst hxa
          refine .inl ⟨rfl, .inl hxy, fun h => ?_, hy⟩
          rw [h, hs.irr] at hxy; cases hxy
        · exact .inr ⟨hxa, .inl hxy⟩
  refine ⟨fun i hi => ?_, fun i hi P hP hcl x hx hcx => ?_, fun q hq => ?_⟩
  · obtain ⟨x, h1, h2⟩ := h.some i hi
    exact ⟨toM a b x, by rw [hl]; exact lT x h1, by rw [cT]; exact h2⟩
  · have := h.conn i hi (fun x => P (toM a b x)) ?_ ?_ (up1 b x) (by rw [hl] at hx; exact up1_lt hx) hcx
    · rwa [uT] at this
    · obtain ⟨x, h1, h2, h3⟩ := hP
      exact ⟨up1 b x, by rw [hl] at h1; exact up1_lt h1, h2, by rw [uT]; exact h3⟩
    · intro x y cx cy hxy hPx
      rcases bT x y hxy with e | e
      · rw [← e]; exact hPx
      · exact hcl _ _ (by rw [cT]; exact cx) (by rw [cT]; exact cy) e hPx
  · obtain ⟨x, y, h1, h2, h3⟩ := h.meet q hq
    rcases bT x y h1 with e | e
    · exfalso
      have := cT x
      rw [e, cT, h2, h3] at this
      exact (hp q hq).2.2 this.symm
    · exact ⟨_, _, e, by rw [cT]; exact h2, by rw [cT]; exact h3⟩
/-- of m colours on n vertices: m at most; if just m, each vertex has one of its own -/
theorem color_cover {n m : Nat} {c : Nat → Nat} (h : ∀ i, i < m → ∃ x, x < n ∧ c x = i) : m ≤ n ∧ (m = n → ∀ x, x < n → c x < n ∧ ∀ y, y < n → c x = c y → x = y) := by
  obtain ⟨s, hs⟩ : ∃ s : Nat → Nat, ∀ i, i < m → s i < n ∧ c (s i) = i := ⟨fun i => if hi : i < m then Classical.choose (h i hi) else 0, fun i hi => by
    dsimp only
    rw [dif_pos hi]; exact Classical.choose_spec (h i hi)⟩
  have nd : ((List.range m).map s).Nodup := by
    refine List.pairwise_map.2 ((List.nodup_range (n := m)).imp_of_mem ?_)
    intro a b ha hb hne he
    refine hne ?_
    rw [← (hs a (List.mem_range.1 ha)).2, he, (hs b (List.mem_range.1 hb)).2]
  have sub : ∀ x ∈ (List.range m).map s, x ∈ List.range n := fun x hx => by
    obtain ⟨i, hi, rfl⟩ := List.mem_map.1 hx
    exact List.mem_range.2 (hs i (List.mem_range.1 hi)).1
  have hle := nodup_lenG nd sub
  rw [List.length_map, List.length_range, List.length_range] at hle
  refine ⟨hle, fun e x hx => ?_⟩
  have cov : ∀ x, x < n → ∃ i, i < m ∧ s i = x := fun x hx => Classical.byContradiction fun hn => by
    have : (x :: (List.range m).map s).Nodup := List.nodup_cons.2 ⟨fun hm => by
      obtain ⟨i, hi, e⟩ := List.mem_map.1 hm
      exact hn ⟨i, List.mem_range.1 hi, e⟩, nd⟩
    have := nodup_lenG this (fun y hy => by
      rcases List.mem_cons.1 hy with rfl | hy
      · exact List.mem_range.2 hx
      · exact sub y hy)
    simp at this
    omega
  obtain ⟨i, hi, rfl⟩ := cov x hx
  refine ⟨by rw [(hs i hi).2]; omega, fun y hy he => ?_⟩
  obtain ⟨j, hj, rfl⟩ := cov y hy
  rw [(hs i hi).2, (hs j hj).2] at he
  rw [he]
def patN (k : Int) : List (Nat × Nat) := (patG k).2.map fun q => (q.1.toNat, q.2.toNat)
theorem patN_one : sizeN 1 = 4 ∧ patN 1 = [(0, 1), (0, 2), (0, 3), (1, 2), (1, 3), (2, 3)] := by decide
theorem patN_two : sizeN 2 = 5 ∧ patN 2 = [(0, 2), (0, 3), (0, 4), (1, 2), (1, 3), (1, 4)] := by decide
theorem bit_or {r : List Nat} (hs : Sq r) {n i : Nat} (hl : r.length = n) (hi : i < n) (h : ∀ j, j < n → j ≠ i → bitL r i j = true) : r.getD i 0 ||| 2 ^ i = 2 ^ n - 1 := by
  apply Nat.eq_of_testBit_eq
  intro j
  rw [Nat.testBit_or, Nat.testBit_two_pow, Nat.testBit_two_pow_sub_one]
  by_cases hj : j < n
  · by_cases e : i = j
    · simp [e, hj]
    · have := h j hj (fun e2 => e e2.symm)
      unfold bitL at this
      rw [this]; simp [hj]
  · have : (r.getD i 0).testBit j = false := by
      cases hc : (r.getD i 0).testBit j with
      | false => rfl
      | true => exact absurd (hs.bnd i j hc) (by omega)
    rw [this]
    have : i ≠ j := by omega
    simp [this, hj]
theorem isB_of {r : List Nat} {p q : Nat} (h : ∀ j, j < 5 → j ≠ p → j ≠ q → bitL r p j = true ∧ bitL r q j = true) : isB r p q = true := by
  have key : ∀ x : Nat, (∀ j, j < 5 → j ≠ p → j ≠ q → x.testBit j = true) → x &&& offX 31 (2 ^ p ||| 2 ^ q) = offX 31 (2 ^ p ||| 2 ^ q) := fun x hx => by
    apply Nat.eq_of_testBit_eq
    intro j
    rw [Nat.testBit_and]
    cases hc : (offX 31 (2 ^ p ||| 2 ^ q)).testBit j with
    | false => simp
    | true =>
      obtain ⟨h1, h2, h3⟩ := (off2_bit _ _ _ _).1 hc
      have : j < 5 := by
        apply Classical.byContradiction
        intro hn
        have : (31 : Nat).testBit j = false := Nat.testBit_lt_two_pow (Nat.lt_of_lt_of_le (show 31 < 2 ^ 5 by omega) (Nat.pow_le_pow_right (by omega) (by omega)))
        rw [this] at h1; cases h1
      rw [hx j this h2 h3]; rfl
  unfold isB
  rw [key _ fun j h1 h2 h3 => (h j h1 h2 h3).1, key _ fun j h1 h2 h3 => (h j h1 h2 h3).2]
  simp
theorem mod_is {r : List Nat} {k : Int} {c : Nat → Nat} (hk : k = 1 ∨ k = 2) (hs : Sq r) (h : Mod r (sizeN k) (patN k) c) (hn : r.length = sizeN k) : isL r k = true := by
  obtain ⟨_, hcov0⟩ := color_cover (n := r.length) h.some
  have hcov := hcov0 hn.symm
  clear hcov0
  have pair : ∀ x y, x < r.length → y < r.length → (c x, c y) ∈ patN k ∨ (c y, c x) ∈ patN k → bitL r x y = true := fun x y hx hy hp => by
    rcases hp with hp | hp
    · obtain ⟨x', y', h1, h2, h3⟩ := h.meet _ hp
      rw [(hcov x hx).2 x' (hs.lt h1) h2.symm, (hcov y hy).2 y' (hs.bnd _ _ h1) h3.symm]; exact h1
    · obtain ⟨y', x', h1, h2, h3⟩ := h.meet _ hp
      rw [(hcov x hx).2 x' (hs.bnd _ _ h1) h3.symm, (hcov y hy).2 y' (hs.lt h1) h2.symm]; exact hs.sym _ _ h1
  rcases hk with rfl | rfl
  · obtain ⟨e1, e2⟩ := patN_one
    rw [e1] at hn
    rw [e2] at pair
    have adj : ∀ x y, x < 4 → y < 4 → y ≠ x → bitL r x y = true := fun x y hx hy hne => by
      refine pair x y (by omega) (by omega) ?_
      have a1 := (hcov x (by omega)).1
      have a2 := (hcov y (by omega)).1
      have a3 : c x ≠ c y := fun e => hne ((hcov x (by omega)).2 y (by omega) e).symm
      rw [hn] at a1 a2
      generalize c x = u at *
      generalize c y = v at *
      have : ∀ u : Fin 4, ∀ v : Fin 4, u.val ≠ v.val → (u.val, v.val) ∈ [(0, 1), (0, 2), (0, 3), (1, 2), (1, 3), (2, 3)] ∨ (v.val, u.val) ∈ [(0, 1), (0, 2), (0, 3), (1, 2), (1, 3), (2, 3)] := by decide
      exact this ⟨u, a1⟩ ⟨v, a2⟩ a3
    have b0 := bit_or hs hn (show 0 < 4 by omega) fun j hj hne => adj 0 j (by omega) hj hne
    have b1 := bit_or hs hn (show 1 < 4 by omega) fun j hj hne => adj 1 j (by omega) hj hne
    have b2 := bit_or hs hn (show 2 < 4 by omega) fun j hj hne => adj 2 j (by omega) hj hne
    have b3 := bit_or hs hn (show 3 < 4 by omega) fun j hj hne => adj 3 j (by omega) hj hne
    unfold isL
    rw [if_pos rfl]
    simp only [Nat.reducePow, Nat.reduceSub] at b0 b1 b2 b3
    rw [b0, b1, b2, b3]; rfl
  · obtain ⟨e1, e2⟩ := patN_two
    rw [e1] at hn
    rw [e2] at pair
    obtain ⟨p, hp, cp⟩ := h.some 0 (by rw [e1]; omega)
    obtain ⟨q, hq, cq⟩ := h.some 1 (by rw [e1]; omega)
    have hpq : p ≠ q := fun e => by rw [e, cq] at cp; cases cp
    have adj : ∀ j, j < 5 → j ≠ p → j ≠ q → bitL r p j = true ∧ bitL r q j = true := fun j hj h1 h2 => by
      have a1 := (hcov j (by omega)).1
      have a2 : c j ≠ 0 := fun e => h1 ((hcov j (by omega)).2 p hp (by rw [e, cp]))
      have a3 : c j ≠ 1 := fun e => h2 ((hcov j (by omega)).2 q hq (by rw [e, cq]))
      rw [hn] at a1
      have : ∀ u : Fin 5, u.val ≠ 0 → u.val ≠ 1 → (0, u.val) ∈ [(0, 2), (0, 3), (0, 4), (1, 2), (1, 3), (1, 4)] ∧ (1, u.val) ∈ [(0, 2), (0, 3), (0, 4), (1, 2), (1, 3), (1, 4)] := by decide
      obtain ⟨m1, m2⟩ := this ⟨c j, a1⟩ a2 a3
      exact ⟨pair p j hp (by omega) (.inl (by rw [cp]; exact m1)), pair q j hq (by omega) (.inl (by rw [cq]; exact m2))⟩
    unfold isL
    rw [if_neg (by decide), List.any_eq_true]
    by_cases hlt : q < p
    · refine ⟨p, List.mem_range.2 (by omega), List.any_eq_true.2 ⟨q, List.mem_range.2 hlt, isB_of adj⟩⟩
    · refine ⟨q, List.mem_range.2 (by omega), List.any_eq_true.2 ⟨p, List.mem_range.2 (by omega), isB_of fun j h1 h2 h3 => ⟨(adj j h1 h3 h2).2, (adj j h1 h3 h2).1⟩⟩⟩
theorem patN_ok {k : Int} (hk : k = 1 ∨ k = 2) : ∀ q ∈ patN k, q.1 < sizeN k ∧ q.2 < sizeN k ∧ q.1 ≠ q.2 := by
  rcases hk with rfl | rfl <;> decide
theorem comes_end {f : Nat} {r : List Nat} {k : Int} (h : r.length ≤ sizeN k) : comesL f r k = (decide (r.length = sizeN k) && isL r k) := by
  cases f with
  | zero => rfl
  | succ f => exact if_pos h
theorem two_same {n m : Nat} {c : Nat → Nat} (h : ∀ x, x < n → c x < m) (hn : m < n) : ∃ x y, x < n ∧ y < n ∧ x ≠ y ∧ c x = c y := Classical.byContradiction fun hc => by
  have nd : ((List.range n).map c).Nodup := by
    refine List.pairwise_map.2 ((List.nodup_range (n := n)).imp_of_mem ?_)
    intro a b ha hb hne he
    exact hc ⟨a, b, List.mem_range.1 ha, List.mem_range.1 hb, hne, he⟩
  have := nodup_lenG (m := List.range m) nd fun x hx => by
    obtain ⟨i, hi, rfl⟩ := List.mem_map.1 hx
    exact List.mem_range.2 (h i (List.mem_range.1 hi))
  simp at this
  omega
/-- where there is a model, one comes to the pattern -/
theorem mod_comes {k : Int} (hk : k = 1 ∨ k = 2) : ∀ (f : Nat) (r : List Nat) (c : Nat → Nat), r.length = f → Sq r → Mod r (sizeN k) (patN k) c → comesL f r k = true := by
  intro f
  induction f with
  | zero =>
    intro r c hl hs h
    have := (color_cover (n := r.length) h.some).1
    have hz : 0 < sizeN k := by rcases hk with rfl | rfl <;> decide
    omega
  | succ f ih =>
    intro r c hl hs h
    have hle := (color_cover (n := r.length) h.some).1
    by_cases hn : r.length ≤ sizeN k
    · rw [comes_end hn, mod_is hk hs h (by omega)]
      simp; omega
    show (if r.length ≤ sizeN k then _ else _) = true
    rw [if_neg hn, Bool.or_eq_true]
    by_cases hd : ∃ v, v < r.length ∧ sizeN k ≤ c v
    · obtain ⟨v, hv, hc⟩ := hd
      refine .inr (List.any_eq_true.2 ⟨v, List.mem_range.2 hv, ?_⟩)
      exact ih _ _ (by rw [lessL_length hv]; omega) (hs.less hv) (h.less (patN_ok hk) hv hc)
    · have hall : ∀ x, x < r.length → c x < sizeN k := fun x hx => Classical.byContradiction fun hn => hd ⟨x, hx, by omega⟩
      obtain ⟨x, y, hx, hy, hne, he⟩ := two_same hall (by omega)
      have edge : ∃ a b, c a = c b ∧ bitL r a b = true := Classical.byContradiction fun hno => by
        have := h.conn (c x) (hall x hx) (· = x) ⟨x, hx, rfl, rfl⟩ (fun u v hu hv huv _ => absurd ⟨u, v, by rw [hu, hv], huv⟩ hno) y hy he.symm
        exact hne this.symm
      obtain ⟨a, b, hab, hb⟩ := edge
      have go : ∀ a b, a < b → c a = c b → bitL r a b = true → (List.range r.length).any (fun a => (List.range r.length).any fun b => decide (a < b) && (bitL r a b && comesL f (mergedL r a b) k)) = true := fun a b hlt hc hb => by
        have h2 := hs.bnd _ _ hb
        refine List.any_eq_true.2 ⟨a, List.mem_range.2 (hs.lt hb), List.any_eq_true.2 ⟨b, List.mem_range.2 h2, ?_⟩⟩
        rw [hb, ih _ _ (by rw [mergedL_length h2]; omega) (hs.merged hlt h2) (h.merged hs (patN_ok hk) hlt h2 hc)]
        simp [hlt]
      have : a ≠ b := fun e => by rw [e, hs.irr] at hb; cases hb
      rcases Nat.lt_or_gt_of_ne this with hlt | hlt
      · exact .inl (go a b hlt hab hb)
      · exact .inl (go b a hlt hab.symm (hs.sym _ _ hb))
/-! #### rows of a graph -/
def rowStep (r : List Nat) (x : Ed) : List Nat := (r.set x.1.toNat (r.getD x.1.toNat 0 ||| 2 ^ x.2.toNat)).set x.2.toNat ((r.set x.1.toNat (r.getD x.1.toNat 0 ||| 2 ^ x.2.toNat)).getD x.2.toNat 0 ||| 2 ^ x.1.toNat)
def rowsL (n : Int) (E : List Ed) : List Nat := E.foldl rowStep (List.replicate n.toNat 0)
theorem rowStep_length (r : List Nat) (x : Ed) : (rowStep r x).length = r.length := by simp [rowStep]
theorem set_bit {r : List Nat} {i : Nat} (hi : i < r.length) (j a b : Nat) : bitL (r.set i (r.getD i 0 ||| 2 ^ j)) a b = (bitL r a b || (decide (a = i) && decide (b = j))) := by
  unfold bitL
  rw [List.getD_eq_getElem?_getD, List.getElem?_set]
  by_cases e : i = a
  · subst e
    rw [if_pos rfl, if_pos hi]
    show ((r.getD i 0 ||| 2 ^ j).testBit b) = _
    rw [Nat.testBit_or, Nat.testBit_two_pow, decide_eq_true rfl, Bool.true_and, decide_eq_decide.2 (show j = b ↔ b = j from ⟨Eq.symm, Eq.symm⟩)]
  · rw [if_neg e]
    have : ¬ a = i := fun h => e h.symm
    simp [this]
theorem rowStep_bit {r : List Nat} {x : Ed} {n : Int} (hl : r.length = n.toNat) (hx : okE n x) (a b : Nat) : bitL (rowStep r x) a b = (bitL r a b || (decide (a = x.1.toNat) && decide (b = x.2.toNat)) || (decide (a = x.2.toNat) && decide (b = x.1.toNat))) := by
  obtain ⟨h1, h2, h3⟩ := hx
  unfold rowStep
  rw [set_bit (by rw [List.length_set]; omega), set_bit (by omega)]
theorem rows_bit {n : Int} : ∀ (E : List Ed) (r : List Nat), r.length = n.toNat → (∀ x ∈ E, okE n x) → (E.foldl rowStep r).length = n.toNat ∧ ∀ a b : Nat, bitL (E.foldl rowStep r) a b = true ↔ bitL r a b = true ∨ adjE E a b := by
  intro E
  induction E with
  | nil => intro r hl _; exact ⟨hl, fun a b => by simp [adjE]⟩
  | cons x E ih =>
    intro r hl hE
    have hx := hE x (by simp)
    obtain ⟨i1, i2⟩ := ih (rowStep r x) (by rw [rowStep_length]; exact hl) fun y hy => hE y (by simp [hy])
    refine ⟨i1, fun a b => ?_⟩
    rw [List.foldl_cons, i2, rowStep_bit hl hx]
    obtain ⟨h1, h2, h3⟩ := hx
    obtain ⟨u, v⟩ := x
    dsimp only at h1 h2 h3
    simp only [Bool.or_eq_true, Bool.and_eq_true, decide_eq_true_eq, adjE, List.mem_cons, Prod.mk.injEq]
    constructor
    · rintro ((( h | ⟨e1, e2⟩) | ⟨e1, e2⟩) | h)
      · exact .inl h
      · exact .inr (.inl (.inl ⟨by omega, by omega⟩))
      · exact .inr (.inr (.inl ⟨by omega, by omega⟩))
      · rcases h with h | h
        · exact .inr (.inl (.inr h))
        · exact .inr (.inr (.inr h))
    · rintro (h | (⟨e1, e2⟩ | h) | (⟨e1, e2⟩ | h))
      · exact .inl (.inl (.inl h))
      · exact .inl (.inl (.inr ⟨by omega, by omega⟩))
      · exact .inr (.inl h)
      · exact .inl (.inr ⟨by omega, by omega⟩)
      · exact .inr (.inr h)
theorem rowsL_length {n : Int} {E : List Ed} (h : ∀ x ∈ E, okE n x) : (rowsL n E).length = n.toNat := (rows_bit E _ (by simp) h).1
theorem rowsL_bit {n : Int} {E : List Ed} (h : ∀ x ∈ E, okE n x) (a b : Nat) : bitL (rowsL n E) a b = true ↔ adjE E a b := by
  unfold rowsL
  rw [(rows_bit E _ (by simp) h).2]
  constructor
  · rintro (h | h)
    · exfalso
      unfold bitL at h
      rw [List.getD_eq_getElem?_getD, List.getElem?_replicate] at h
      split at h <;> simp at h
    · exact h
  · exact .inr
theorem adjE_range {n : Int} {E : List Ed} (h : ∀ x ∈ E, okE n x) {a b : Int} (ha : adjE E a b) : 0 ≤ a ∧ a < n ∧ 0 ≤ b ∧ b < n ∧ a ≠ b := by
  rcases ha with ha | ha
  · obtain ⟨h1, h2, h3⟩ := h _ ha
    dsimp only at h1 h2 h3; omega
  · obtain ⟨h1, h2, h3⟩ := h _ ha
    dsimp only at h1 h2 h3; omega
theorem rowsL_sq {n : Int} {E : List Ed} (h : ∀ x ∈ E, okE n x) : Sq (rowsL n E) := by
  refine ⟨fun a b hb => ?_, fun a b hb => ?_, fun a => ?_⟩
  · rw [rowsL_bit h] at hb
    have := adjE_range h hb
    rw [rowsL_length h]; omega
  · rw [rowsL_bit h] at hb ⊢
    exact hb.symm
  · cases hc : bitL (rowsL n E) a a with
    | false => rfl
    | true =>
      rw [rowsL_bit h] at hc
      have := adjE_range h hc
      omega
theorem rch_back {E : List Ed} {l : List Int} {P : Int → Prop} {s : Int} (hs : s ∈ l) (hc : ∀ u v, u ∈ l → v ∈ l → adjE E u v → P u → P v) : ∀ {v : Int}, Rch E l s v → v ∈ l ∧ (P v → P s) := by
  intro v hr
  induction hr with
  | base => exact ⟨hs, id⟩
  | @step u v hr ha hv ih => exact ⟨hv, fun hp => ih.2 (hc v u hv ih.1 ha.symm hp)⟩
theorem rch_forw {E : List Ed} {l : List Int} {P : Int → Prop} {s : Int} (hs : s ∈ l) (hp : P s) (hc : ∀ u v, u ∈ l → v ∈ l → adjE E u v → P u → P v) : ∀ {v : Int}, Rch E l s v → v ∈ l ∧ P v := by
  intro v hr
  induction hr with
  | base => exact ⟨hs, hp⟩
  | @step u v hr ha hv ih => exact ⟨hv, hc u v ih.1 hv ha ih.2⟩
theorem chk_mod {n : Int} {E : List Ed} {k : Int} {S : List (List Int)} (h : CheckP n E k S) : Mod (rowsL n E) (sizeN k) (patN k) fun x => S.findIdx fun l => l.elem (x : Int) := by
  obtain ⟨hR, hk0, hl, hW, hnd, hT⟩ := h
  have hE : ∀ x ∈ E, okE n x := fun x hx => hR.2.2.2.1 x hx
  have hb := rowsL_bit hE
  have hlen := rowsL_length hE
  have hSl : S.length = sizeN k := by unfold sizeN; omega
  have cx : ∀ (x : Nat) (i : Nat) (hi : i < S.length), (S.findIdx fun l => l.elem (x : Int)) = i ↔ (x : Int) ∈ S[i] := fun x i hi => by
    constructor
    · intro e
      have := List.findIdx_getElem (xs := S) (p := fun l => l.elem (x : Int)) (w := by omega)
      simp only [e] at this
      simpa using this
    · intro hm
      have hlt : (S.findIdx fun l => l.elem (x : Int)) < S.length := List.findIdx_lt_length_of_exists ⟨S[i], List.getElem_mem hi, by simpa using hm⟩
      have := List.findIdx_getElem (xs := S) (p := fun l => l.elem (x : Int)) (w := hlt)
      exact disj_at hnd (List.getElem?_eq_getElem hlt) (List.getElem?_eq_getElem hi) (by simpa using this) hm
  refine ⟨fun i hi => ?_, fun i hi P hP hcl x hx hcx => ?_, fun q hq => ?_⟩
  · have hi : i < S.length := by omega
    have hw := hW _ (List.getElem_mem hi)
    obtain ⟨v, hv⟩ := List.exists_mem_of_ne_nil _ hw.2.1
    have hvr := hw.2.2.2.1 v hv
    refine ⟨v.toNat, by rw [hlen]; omega, (cx _ i hi).2 ?_⟩
    rw [Int.toNat_of_nonneg hvr.1]; exact hv
  · have hi : i < S.length := by omega
    have hw := hW _ (List.getElem_mem hi)
    have hin : S[i].headD 0 ∈ S[i] := by
      cases hS : S[i] with
      | nil => exact absurd hS hw.2.1
      | cons a l => simp
    have hr0 := hw.2.2.2.1
    have hcl2 : ∀ u v, u ∈ S[i] → v ∈ S[i] → adjE E u v → P u.toNat → P v.toNat := fun u v hu hv ha hp => by
      have r1 := hr0 u hu
      have r2 := hr0 v hv
      have e1 := Int.toNat_of_nonneg r1.1
      have e2 := Int.toNat_of_nonneg r2.1
      refine hcl u.toNat v.toNat ((cx _ i hi).2 (by rw [e1]; exact hu)) ((cx _ i hi).2 (by rw [e2]; exact hv)) ((hb _ _).2 (by rw [e1, e2]; exact ha)) hp
    obtain ⟨y, hy, hcy, hPy⟩ := hP
    have hyS := (cx y i hi).1 hcy
    have hxS := (cx x i hi).1 hcx
    have hs := (rch_back (P := fun v => P v.toNat) hin hcl2 (hw.2.2.2.2 _ hyS)).2 (by simpa using hPy)
    have := (rch_forw (P := fun v => P v.toNat) hin hs hcl2 (hw.2.2.2.2 _ hxS)).2
    simpa using this
  · obtain ⟨p, hp, rfl⟩ := List.mem_map.1 hq
    have := hT p hp
    obtain ⟨_, _, _, h4⟩ := patG_ok k
    obtain ⟨q0, q1, q2⟩ := h4 p hp
    have i1 : p.1.toNat < S.length := by omega
    have i2 : p.2.toNat < S.length := by omega
    have s1 : setAt S p.1 = S[p.1.toNat] := by unfold setAt; rw [List.getD_eq_getElem?_getD, List.getElem?_eq_getElem i1]; rfl
    have s2 : setAt S p.2 = S[p.2.toNat] := by unfold setAt; rw [List.getD_eq_getElem?_getD, List.getElem?_eq_getElem i2]; rfl
    rw [s1, s2] at this
    obtain ⟨x, hx, ht⟩ := List.any_eq_true.1 this
    have e1 := Int.toNat_of_nonneg (hE x hx).1
    have e2 := Int.toNat_of_nonneg (show 0 ≤ x.2 by have := hE x hx; obtain ⟨a1, a2, a3⟩ := this; omega)
    simp only [Bool.or_eq_true, Bool.and_eq_true] at ht
    rcases ht with ⟨t1, t2⟩ | ⟨t1, t2⟩
    · refine ⟨x.1.toNat, x.2.toNat, (hb _ _).2 (by rw [e1, e2]; exact .inl hx), (cx _ _ i1).2 (by rw [e1]; simpa using t1), (cx _ _ i2).2 (by rw [e2]; simpa using t2)⟩
    · refine ⟨x.2.toNat, x.1.toNat, (hb _ _).2 (by rw [e1, e2]; exact .inr hx), (cx _ _ i1).2 (by rw [e2]; simpa using t2), (cx _ _ i2).2 (by rw [e1]; simpa using t1)⟩
/-- where there is a model, one comes to the pattern -/
theorem chk_has {n : Int} {E : List Ed} {k : Int} {S : List (List Int)} (h : CheckP n E k S) : hasL (rowsL n E) k = true := by
  have hk : k = 1 ∨ k = 2 := by
    rcases patG_cases k with ⟨h1, _⟩ | ⟨h1, _⟩ | ⟨_, _, e⟩
    · exact .inl h1
    · exact .inr h1
    · exact absurd (by rw [e]) h.2.1
  exact mod_comes hk _ _ _ rfl (rowsL_sq fun x hx => h.1.2.2.2.1 x hx) (chk_mod h)
end Go.Sh

set_option linter.unusedVariables false
set_option linter.unusedSimpArgs false
namespace Go.Sh
open Go.Proofs
/-! ### bits, as numbers -/
def borI (a b : Int) : Int := IntKind.wrap .i64 ((BitVec.ofInt (IntKind.bits .i64) a ||| BitVec.ofInt (IntKind.bits .i64) b).toNat : Int)
def boffI (a b : Int) : Int := IntKind.wrap .i64 ((BitVec.ofInt (IntKind.bits .i64) a &&& ~~~ BitVec.ofInt (IntKind.bits .i64) b).toNat : Int)
theorem wrap_nat {m : Nat} (h : m < 2 ^ 63) : IntKind.wrap .i64 (m : Int) = m := by
  have e : (m : Int) % 2 ^ 64 = m := by omega
  simp only [IntKind.wrap, IntKind.bits, IntKind.signed]
  refine (if_neg fun h => ?_).trans e
  simp at h
  omega
theorem ofInt_nat {m : Nat} (h : m < 2 ^ 63) : (BitVec.ofInt (IntKind.bits .i64) (m : Int)).toNat = m := by
  show (BitVec.ofInt 64 (m : Int)).toNat = m
  rw [BitVec.ofInt_natCast, BitVec.toNat_ofNat, Nat.mod_eq_of_lt (by omega)]
theorem and_nat {x y : Nat} (hx : x < 2 ^ 63) (hy : y < 2 ^ 63) : andI (x : Int) (y : Int) = ((x &&& y : Nat) : Int) := by
  unfold andI
  rw [BitVec.toNat_and, ofInt_nat hx, ofInt_nat hy, wrap_nat (Nat.lt_of_le_of_lt Nat.and_le_left hx)]
theorem or_nat {x y : Nat} (hx : x < 2 ^ 63) (hy : y < 2 ^ 63) : borI (x : Int) (y : Int) = ((x ||| y : Nat) : Int) := by
  unfold borI
  rw [BitVec.toNat_or, ofInt_nat hx, ofInt_nat hy, wrap_nat (Nat.or_lt_two_pow hx hy)]
theorem off_nat {x y : Nat} (hx : x < 2 ^ 63) (hy : y < 2 ^ 63) : boffI (x : Int) (y : Int) = ((offX x y : Nat) : Int) := by
  unfold boffI
  have e : (BitVec.ofInt (IntKind.bits .i64) (x : Int) &&& ~~~ BitVec.ofInt (IntKind.bits .i64) (y : Int)).toNat = offX x y := by
    apply Nat.eq_of_testBit_eq
    intro j
    rw [off_bit, BitVec.testBit_toNat, BitVec.getLsbD_and, BitVec.getLsbD_not, ← BitVec.testBit_toNat, ← BitVec.testBit_toNat, ofInt_nat hx, ofInt_nat hy]
    by_cases hj : j < 64
    · have : j < IntKind.bits .i64 := hj
      simp [this]
    · have : x.testBit j = false := Nat.testBit_lt_two_pow (Nat.lt_of_lt_of_le hx (Nat.pow_le_pow_right (by omega) (by omega)))
      rw [this]; simp
  rw [e, wrap_nat (Nat.lt_of_le_of_lt ?_ hx)]
  unfold offX
  apply Nat.le_of_testBit
  intro j hj
  rw [Nat.testBit_xor, Nat.testBit_and] at hj
  cases hc : x.testBit j with
  | true => rfl
  | false => rw [hc] at hj; simp at hj
theorem pow8 {v : Nat} (h : v ≤ 8) : 2 ^ v ≤ 256 := Nat.pow_le_pow_right (n := 2) (by omega) h
theorem pow7 {v : Nat} (h : v ≤ 7) : 2 ^ v ≤ 128 := Nat.pow_le_pow_right (n := 2) (by omega) h
theorem powI (v : Nat) : (1 : Int) * 2 ^ ((v : Int)).toNat = ((2 ^ v : Nat) : Int) := by simp
theorem shrI (x v : Nat) : (x : Int).fdiv (2 ^ ((v : Int)).toNat) = ((x >>> v : Nat) : Int) := by
  rw [Int.toNat_natCast, Nat.shiftRight_eq_div_pow, Int.fdiv_eq_ediv_of_nonneg _ (by exact Int.le_of_lt (Int.pow_pos (by omega)))]
  simp
theorem shr_lt {x v : Nat} (h : x < 256) : x >>> v < 256 := by
  rw [Nat.shiftRight_eq_div_pow]
  exact Nat.lt_of_le_of_lt (Nat.div_le_self _ _) h
theorem inK_u64 {a : Int} (h0 : 0 ≤ a) (h : a < 9223372036854775808) : inK .u64 a = true := by
  rw [inK_iff]
  simp only [IntKind.wrap, IntKind.bits, IntKind.signed]
  simp
  omega
theorem bitI (x v : Nat) (h : x < 256) : (andI ((x : Int).fdiv (2 ^ ((v : Int)).toNat)) 1 == 1) = x.testBit v := by
  have := shr_lt (v := v) h
  rw [shrI, show (1 : Int) = ((1 : Nat) : Int) from rfl, and_nat (by omega) (by omega), Nat.testBit, Nat.and_comm]
  rcases Nat.mod_two_eq_zero_or_one (x >>> v) with e | e
  · rw [Nat.one_and_eq_mod_two, e]; rfl
  · rw [Nat.one_and_eq_mod_two, e]; rfl
def natL (r : List Nat) : List Int := List.map (fun n : Nat => (n : Int)) r
abbrev nats (r : List Nat) : Flat := ints (natL r)
theorem natL_inj {r s : List Nat} (h : natL r = natL s) : r = s := (List.map_inj_right fun a b e => by omega).1 h
theorem natL_length (r : List Nat) : (natL r).length = r.length := by simp [natL]
theorem nats_length (r : List Nat) : (nats r).length = r.length := by rw [ints_length, natL_length]
theorem nats_get {r : List Nat} {i : Nat} (h : i < r.length) : (nats r)[i]? = some [.i .i64 ((r.getD i 0 : Nat) : Int)] := by
  refine ints_get ?_
  simp [natL, List.getElem?_eq_getElem h]
theorem nats_snoc (r : List Nat) (x : Nat) : nats (r ++ [x]) = nats r ++ [[.i .i64 (x : Int)]] := by simp [nats, natL, ints]
theorem nats_set (r : List Nat) (i x : Nat) : nats (r.set i x) = (nats r).set i [.i .i64 (x : Int)] := by simp [nats, natL, ints, List.map_set]
theorem getD_lt {r : List Nat} {m : Nat} (h : ∀ x ∈ r, x < m) (hm : 0 < m) (i : Nat) : r.getD i 0 < m := by
  by_cases hi : i < r.length
  · rw [List.getD_eq_getElem?_getD, List.getElem?_eq_getElem hi]; exact h _ (List.getElem_mem hi)
  · rw [getD_out hi]; exact hm
/-- small rows of bits -/
def Byt (r : List Nat) : Prop := r.length ≤ 8 ∧ ∀ x ∈ r, x < 256
theorem lessX_lt {x v : Nat} (h : x < 256) : lessX x v < 256 := by
  apply Nat.lt_pow_two_of_testBit (n := 8)
  intro i hi
  rw [lessX_bit]
  exact Nat.testBit_lt_two_pow (Nat.lt_of_lt_of_le (show x < 2 ^ 8 by omega) (Nat.pow_le_pow_right (by omega) (by unfold up1; split <;> omega)))
theorem mergeX_lt {r : List Nat} (h : Byt r) {a b i x : Nat} (ha : a < 8) (hx : x < 256) : mergeX r a b i x < 256 := by
  have h1 := getD_lt h.2 (by omega) a
  have h2 := getD_lt h.2 (by omega) b
  unfold mergeX
  split
  · apply Nat.lt_pow_two_of_testBit (n := 8)
    intro i hi
    rw [off_bit, Nat.testBit_lt_two_pow (Nat.lt_of_lt_of_le (Nat.or_lt_two_pow (n := 8) h1 h2) (Nat.pow_le_pow_right (by omega) hi))]
    rfl
  · split
    · exact Nat.or_lt_two_pow (n := 8) hx (Nat.pow_lt_pow_right (by omega) ha)
    · exact hx
theorem Byt.less {r : List Nat} (h : Byt r) {v : Nat} (hv : v < r.length) : Byt (lessL r v) := by
  refine ⟨by have := lessL_length hv; have := h.1; omega, fun x hx => ?_⟩
  obtain ⟨y, hy, rfl⟩ := List.mem_map.1 hx
  exact lessX_lt (h.2 y (List.mem_of_mem_eraseIdx hy))
theorem Byt.merge {r : List Nat} (h : Byt r) {a b : Nat} (ha : a < r.length) : Byt (mergeL r a b) := by
  refine ⟨by rw [mergeL_length]; exact h.1, fun x hx => ?_⟩
  obtain ⟨i, hi, rfl⟩ := List.mem_map.1 hx
  exact mergeX_lt h (by have := h.1; omega) (getD_lt h.2 (by omega) i)
theorem Byt.merged {r : List Nat} (h : Byt r) {a b : Nat} (ha : a < r.length) (hb : b < r.length) : Byt (mergedL r a b) := (h.merge ha).less (by rw [mergeL_length]; exact hb)
/-! ### carcanetref08.less -/
noncomputable def Less8C : Con := conP 2 (fun a : List Nat × Nat => Byt a.1 ∧ a.2 < a.1.length) (fun a => [.one (.flat false 1 (nats a.1)), .one (.s (.i .i64 (a.2 : Nat)))]) (fun a => .one (.flat true 1 (nats (lessL a.1 a.2))))
theorem Less8C_at {r : List Nat} {v : Nat} (h : Byt r ∧ v < r.length) : Less8C.F [.one (.flat false 1 (nats r)), .one (.s (.i .i64 (v : Nat)))] = some (.one (.flat true 1 (nats (lessL r v))), []) :=
  conP_at (a := (r, v)) (fun a b _ _ h => by
    obtain ⟨r, v⟩ := a
    obtain ⟨r', v'⟩ := b
    simp at h
    obtain ⟨h1, h2⟩ := h
    rw [natL_inj (ints_inj h1), show v = v' by omega]) h
theorem lessI {x v : Nat} (hx : x < 256) (hv : v < 8) : borI (andI (x : Int) (1 * 2 ^ ((v : Int)).toNat - 1)) ((x : Int).fdiv (2 ^ ((v : Int) + 1).toNat) * 2 ^ ((v : Int)).toNat) = ((lessX x v : Nat) : Int) := by
  have h1 := pow7 (show v ≤ 7 by omega)
  have h2 := Nat.pow_pos (n := v) (show 0 < 2 by omega)
  have h3 := shr_lt (v := v + 1) hx
  have e1 : (1 * 2 ^ ((v : Int)).toNat - 1 : Int) = ((2 ^ v - 1 : Nat) : Int) := by rw [powI]; omega
  have e2 : (x : Int).fdiv (2 ^ ((v : Int) + 1).toNat) = ((x >>> (v + 1) : Nat) : Int) := shrI x (v + 1)
  have e3 : ((x >>> (v + 1) : Nat) : Int) * 2 ^ ((v : Int)).toNat = (((x >>> (v + 1)) <<< v : Nat) : Int) := by rw [Nat.shiftLeft_eq]; simp
  have h4 : (x >>> (v + 1)) <<< v < 2 ^ 63 := by
    rw [Nat.shiftLeft_eq]
    exact Nat.lt_of_le_of_lt (Nat.mul_le_mul (Nat.le_of_lt h3) h1) (by decide)
  rw [e1, e2, e3, and_nat (by omega) (by omega), or_nat (Nat.lt_of_le_of_lt Nat.and_le_left (by omega)) h4]
  rfl
theorem less_take {r : List Nat} {v k : Nat} (hk : k < r.length) : ((r.take (k + 1)).eraseIdx v).map (lessX · v) = ((r.take k).eraseIdx v).map (lessX · v) ++ (if k = v then [] else [lessX (r.getD k 0) v]) := by
  rw [List.take_succ_eq_append_getElem hk]
  have hg : r.getD k 0 = r[k] := by rw [List.getD_eq_getElem?_getD, List.getElem?_eq_getElem hk]; rfl
  have hl : (r.take k).length = k := by rw [List.length_take]; omega
  by_cases h : v < k
  · rw [List.eraseIdx_append_of_lt_length (by omega), if_neg (by omega), hg]; simp
  · rw [List.eraseIdx_append_of_length_le (by omega), hl]
    have e : (r.take k).eraseIdx v = r.take k := List.eraseIdx_of_length_le (by omega)
    rw [e]
    by_cases h2 : k = v
    · subst h2; simp
    · rw [if_neg h2, hg]
      have : v - k = (v - k - 1) + 1 := by omega
      rw [this, List.eraseIdx_cons_succ, List.eraseIdx_nil, List.map_append]; rfl
set_option maxHeartbeats 1000000 in
theorem Less8_ok : SoundC Try.prog T 83 Less8C := by
  refine sound_con (X := { Γ := [], T := T, nt := 44 }) cr_none hmix hT sound_nil Try.func83 (by rfl) (by rfl) (by rfl) (by rfl) 2 ?_
  rintro ⟨r, v⟩ ⟨⟨hl, hb⟩, hv⟩
  dsimp only at hl hb hv ⊢
  refine ⟨⟨Nat.le_of_ble_eq_true rfl, Nat.le_of_ble_eq_true rfl⟩, ?_⟩
  have hP := pow7 (show v ≤ 7 by omega)
  have hP0 := Nat.pow_pos (n := v) (show 0 < 2 by omega)
  refine LoopP.intro (α := Nat) (fun k => k ≤ r.length) (fun k => r.length - k) (fun k => [(0, .sl 0 none none), (1, .s (.i .i64 (v : Nat))), (5, .sl 1 none none), (6, .s (.i .i64 k))])
    (fun k => [(0, some (.flat false 1 (nats r))), (1, some (.flat true 1 (nats (((r.take k).eraseIdx v).map (lessX · v)))))]) 2 0 (by omega) (by refine Weak.by [(0, some _), (1, some _)] (by (repeat' first | exact rfl | exact trivial | refine And.intro ?_ ?_); all_goals ((rw [show (r.take 0).eraseIdx v = [] by simp]; rfl))) (by (repeat' first | exact rfl | exact trivial | refine And.intro ?_ ?_); all_goals ((rw [show (r.take 0).eraseIdx v = [] by simp]; rfl))) (by rfl)) ?_
  rintro k hk
  refine Pick.by (fun hc => ?_) (fun hc => ?_)
  · have hlt : k < r.length := by rw [nats_length] at hc; simpa using hc
    have hx := getD_lt hb (by omega) k
    have hst := less_take (v := v) hlt
    refine Pick.by (fun h1 => ?_) (fun h1 => ?_)
    · have h1 : k ≠ v := by simp at h1; omega
      rw [if_neg h1] at hst
      refine Idx.by k rfl (by rw [nats_length]; exact hlt) ?_
      refine Look.by _ (nats_get hlt) ?_
      refine Pick.T (inK_u64 (by omega) (by omega)) ?_
      refine Pick.T (by simp; omega) ?_
      refine Pick.T (by rw [powI]; exact inI64_of (by omega) (by omega)) ?_
      refine Pick.T (by rw [powI]; exact inI64_of (by omega) (by omega)) ?_
      refine Idx.by k rfl (by rw [nats_length]; exact hlt) ?_
      refine Look.by _ (nats_get hlt) ?_
      refine Pick.T (inI64_of (by omega) (by omega)) ?_
      refine Pick.T (inK_u64 (by omega) (by omega)) ?_
      refine Pick.T (by simp; omega) ?_
      refine Pick.T (inK_u64 (by omega) (by omega)) ?_
      refine Pick.T (by simp; omega) ?_
      refine Pick.T (by
        rw [show ((r.getD k 0 : Nat) : Int).fdiv (2 ^ ((v : Int) + 1).toNat) = ((r.getD k 0 >>> (v + 1) : Nat) : Int) from shrI _ (v + 1)]
        have h3 := shr_lt (v := v + 1) hx
        have : (((r.getD k 0 >>> (v + 1) : Nat) : Int)) * 2 ^ ((v : Int)).toNat = (((r.getD k 0 >>> (v + 1)) * 2 ^ v : Nat) : Int) := by simp
        rw [this]
        have := Nat.mul_le_mul (Nat.le_of_lt h3) hP
        exact inI64_of (by omega) (by omega)) ?_
      refine Pick.T (by simp [cut, ints_length, natL_length, List.length_eraseIdx]; split <;> omega) ?_
      refine Pick.T (inI64_of (by omega) (by omega)) ?_
      refine Next.by (k + 1) (by omega) (by omega) (by refine Weak.by [(0, some _), (1, some _)] (by (repeat' first | exact rfl | exact trivial | refine And.intro ?_ ?_); all_goals ((rw [hst, nats_snoc, ← lessI hx (show v < 8 by omega)]; rfl))) (by (repeat' first | exact rfl | exact trivial | refine And.intro ?_ ?_); all_goals ((rw [hst, nats_snoc, ← lessI hx (show v < 8 by omega)]; rfl))) (by rfl))
    · have h1 : k = v := by simp at h1; omega
      rw [if_pos h1, List.append_nil] at hst
      refine Pick.T (inI64_of (by omega) (by omega)) ?_
      refine Next.by (k + 1) (by omega) (by omega) (by refine Weak.by [(0, some _), (1, some _)] (by (repeat' first | exact rfl | exact trivial | refine And.intro ?_ ?_); all_goals ((rw [hst]))) (by (repeat' first | exact rfl | exact trivial | refine And.intro ?_ ?_); all_goals ((rw [hst]))) (by rfl))
  · have hge : r.length ≤ k := by rw [nats_length] at hc; simpa using hc
    rw [List.take_of_length_le hge]
    exact ⟨rfl, rfl, rfl⟩
/-! ### carcanetref08.merged -/
noncomputable def Merged8C : Con := conP 3 (fun a : List Nat × Nat × Nat => Byt a.1 ∧ a.2.1 < a.1.length ∧ a.2.2 < a.1.length) (fun a => [.one (.flat false 1 (nats a.1)), .one (.s (.i .i64 (a.2.1 : Nat))), .one (.s (.i .i64 (a.2.2 : Nat)))]) (fun a => .one (.flat true 1 (nats (mergedL a.1 a.2.1 a.2.2))))
theorem Merged8C_at {r : List Nat} {a b : Nat} (h : Byt r ∧ a < r.length ∧ b < r.length) : Merged8C.F [.one (.flat false 1 (nats r)), .one (.s (.i .i64 (a : Nat))), .one (.s (.i .i64 (b : Nat)))] = some (.one (.flat true 1 (nats (mergedL r a b))), []) :=
  conP_at (a := (r, a, b)) (fun x y _ _ h => by
    obtain ⟨r, a, b⟩ := x
    obtain ⟨r', a', b'⟩ := y
    simp at h
    obtain ⟨h1, h2, h3⟩ := h
    rw [natL_inj (ints_inj h1), show a = a' by omega, show b = b' by omega]) h
def mrgK (r : List Nat) (a b k : Nat) : List Nat := (List.range r.length).map fun i => if i = a ∨ i < k then mergeX r a b i (r.getD i 0) else r.getD i 0
theorem mrgK_length (r : List Nat) (a b k : Nat) : (mrgK r a b k).length = r.length := by simp [mrgK]
theorem mrgK_get {r : List Nat} {a b k i : Nat} (h : i < r.length) : (mrgK r a b k)[i]? = some (if i = a ∨ i < k then mergeX r a b i (r.getD i 0) else r.getD i 0) := by
  unfold mrgK
  rw [List.getElem?_map, List.getElem?_range h]; rfl
theorem mrgK_all (r : List Nat) (a b : Nat) {k : Nat} (h : r.length ≤ k) : mrgK r a b k = mergeL r a b := by
  unfold mrgK mergeL
  refine List.map_congr_left fun i hi => ?_
  rw [if_pos (.inr (by have := List.mem_range.1 hi; omega))]
theorem mrgK_zero {r : List Nat} {a b : Nat} (ha : a < r.length) : mrgK r a b 0 = r.set a (offX (r.getD a 0 ||| r.getD b 0) (2 ^ a ||| 2 ^ b)) := by
  apply List.ext_getElem?
  intro i
  rw [List.getElem?_set]
  by_cases hi : i < r.length
  · rw [mrgK_get hi]
    by_cases e : a = i
    · subst e
      rw [if_pos (.inl rfl), if_pos rfl, if_pos hi]
      unfold mergeX
      rw [if_pos rfl]
    · rw [if_neg (by omega), if_neg e, List.getD_eq_getElem?_getD, List.getElem?_eq_getElem hi]; rfl
  · rw [List.getElem?_eq_none (by rw [mrgK_length]; omega), if_neg (by omega), List.getElem?_eq_none (by omega)]
theorem mrgK_put {r : List Nat} {a b k : Nat} (hk : k < r.length) (ha : k ≠ a) (hb : (r.getD k 0).testBit b = true) : mrgK r a b (k + 1) = (mrgK r a b k).set k (r.getD k 0 ||| 2 ^ a) := by
  apply List.ext_getElem?
  intro i
  rw [List.getElem?_set]
  by_cases hi : i < r.length
  · rw [mrgK_get hi]
    by_cases e : k = i
    · subst e
      rw [if_pos (.inr (by omega)), if_pos rfl, if_pos (by rw [mrgK_length]; exact hi)]
      unfold mergeX
      rw [if_neg ha, if_pos hb]
    · rw [if_neg e, mrgK_get hi]
      by_cases h2 : i = a ∨ i < k
      · rw [if_pos h2, if_pos (by omega)]
      · rw [if_neg h2, if_neg (by omega)]
  · rw [List.getElem?_eq_none (by rw [mrgK_length]; omega), if_neg (by omega), List.getElem?_eq_none (by rw [mrgK_length]; omega)]
theorem mrgK_keep {r : List Nat} {a b k : Nat} (h : k = a ∨ (r.getD k 0).testBit b = false) : mrgK r a b (k + 1) = mrgK r a b k := by
  unfold mrgK
  refine List.map_congr_left fun i hi => ?_
  by_cases h2 : i = a ∨ i < k
  · rw [if_pos h2, if_pos (by omega)]
  · rw [if_neg h2]
    by_cases e : i = k
    · subst e
      rw [if_pos (.inr (by omega))]
      have h1 : i ≠ a := by omega
      have h2 : (r.getD i 0).testBit b = false := by rcases h with h | h; · exact absurd h h1
                                                     · exact h
      unfold mergeX
      rw [if_neg h1, if_neg (by rw [h2]; simp)]
    · rw [if_neg (by omega)]
theorem mrgK_getD {r : List Nat} {a b k : Nat} (hk : k < r.length) (ha : k ≠ a) : (mrgK r a b k).getD k 0 = r.getD k 0 := by
  rw [List.getD_eq_getElem?_getD, mrgK_get hk, if_neg (by omega)]; rfl
theorem one_shl {v : Nat} (h : v < 8) : inI64 (1 * 2 ^ ((v : Int)).toNat) = true := by
  have := pow7 (show v ≤ 7 by omega)
  rw [powI]
  generalize 2 ^ v = m at *
  exact inI64_of (by omega) (by omega)
theorem or2_lt {a b : Nat} (ha : a < 8) (hb : b < 8) : (2 ^ a ||| 2 ^ b : Nat) < 256 := Nat.or_lt_two_pow (n := 8) (Nat.pow_lt_pow_right (by omega) ha) (Nat.pow_lt_pow_right (by omega) hb)
theorem headI {x y a b : Nat} (hx : x < 256) (hy : y < 256) (ha : a < 8) (hb : b < 8) : boffI (borI (x : Int) (y : Int)) (borI (1 * 2 ^ ((a : Int)).toNat) (1 * 2 ^ ((b : Int)).toNat)) = ((offX (x ||| y) (2 ^ a ||| 2 ^ b) : Nat) : Int) := by
  have h1 := pow7 (show a ≤ 7 by omega)
  have h2 := pow7 (show b ≤ 7 by omega)
  have h3 := or2_lt ha hb
  have h4 : (x ||| y : Nat) < 256 := Nat.or_lt_two_pow (n := 8) hx hy
  rw [powI, powI, or_nat (by omega) (by omega), or_nat (by omega) (by omega), off_nat (by omega) (by omega)]
theorem orbI {x a : Nat} (hx : x < 256) (ha : a < 8) : borI (x : Int) (1 * 2 ^ ((a : Int)).toNat) = ((x ||| 2 ^ a : Nat) : Int) := by
  have h1 := pow7 (show a ≤ 7 by omega)
  rw [powI, or_nat (by omega) (by omega)]
set_option maxHeartbeats 1000000 in
theorem Merged8_ok : SoundC Try.prog T 82 Merged8C := by
  refine sound_con (X := { Γ := [(83, Less8C)], T := T, nt := 66 }) cr_none hmix hT (sound_cons Less8_ok sound_nil) Try.func82 (by rfl) (by rfl) (by rfl) (by rfl) 3 ?_
  rintro ⟨r, a, b⟩ ⟨hB, ha, hb⟩
  dsimp only at hB ha hb ⊢
  have hl := hB.1
  have hra := getD_lt hB.2 (show 0 < 256 by omega) a
  have hrb := getD_lt hB.2 (show 0 < 256 by omega) b
  refine ⟨⟨Nat.le_of_ble_eq_true rfl, Nat.le_of_ble_eq_true rfl⟩, ?_⟩
  refine Pick.T (by simp [cut, ints_length, natL_length]; omega) ?_
  refine Idx.by a rfl (by rw [nats_length]; exact ha) ?_
  refine Look.by _ (nats_get ha) ?_
  refine Idx.by b rfl (by rw [nats_length]; exact hb) ?_
  refine Look.by _ (nats_get hb) ?_
  refine Pick.T (inK_u64 (by omega) (by omega)) ?_
  refine Pick.T (by simp; omega) ?_
  refine Pick.T (one_shl (by omega)) ?_
  refine Pick.T (inK_u64 (by omega) (by omega)) ?_
  refine Pick.T (by simp; omega) ?_
  refine Pick.T (one_shl (by omega)) ?_
  refine Idx.by a rfl (by simp [cut, ints_length, natL_length]; omega) ?_
  refine Look.by _ (by show (nats r)[a]? = _; exact nats_get ha) ?_
  refine Seg.by (by kernel_rfl) ?_
  refine LoopP.intro (α := Nat) (fun k => k ≤ r.length) (fun k => r.length - k) (fun k => [(0, .sl 0 none none), (1, .s (.i .i64 (a : Nat))), (2, .s (.i .i64 (b : Nat))), (7, .sl 1 none none), (8, .s (.i .i64 k))])
    (fun k => [(0, some (.flat false 1 (nats r))), (1, some (.flat true 1 (nats (mrgK r a b k))))]) 2 0 (by omega) (by refine Weak.by [(0, some _), (1, some _)] (by (repeat' first | exact rfl | exact trivial | refine And.intro ?_ ?_); all_goals ((rw [mrgK_zero ha, nats_set, ← headI hra hrb (by omega) (by omega)]; rfl))) (by (repeat' first | exact rfl | exact trivial | refine And.intro ?_ ?_); all_goals ((rw [mrgK_zero ha, nats_set, ← headI hra hrb (by omega) (by omega)]; rfl))) (by rfl)) ?_
  rintro k hk
  refine Pick.by (fun hc => ?_) (fun hc => ?_)
  · have hlt : k < r.length := by rw [nats_length] at hc; simpa using hc
    have hx := getD_lt hB.2 (show 0 < 256 by omega) k
    have skip : k = a ∨ (r.getD k 0).testBit b = false → mrgK r a b (k + 1) = mrgK r a b k := mrgK_keep
    refine Pick.by (fun h1 => ?_) (fun h1 => ?_)
    · have h1 : k ≠ a := by simp at h1; omega
      refine Idx.by k rfl (by rw [nats_length]; exact hlt) ?_
      refine Look.by _ (nats_get hlt) ?_
      refine Pick.T (inK_u64 (by omega) (by omega)) ?_
      refine Pick.T (by simp; omega) ?_
      refine Pick.by (fun h2 => ?_) (fun h2 => ?_)
      · have h2 : (r.getD k 0).testBit b = true := by rw [← bitI _ _ hx]; exact h2
        refine Idx.by k rfl (by rw [nats_length, mrgK_length]; exact hlt) ?_
        refine Look.by _ (nats_get (by rw [mrgK_length]; exact hlt)) ?_
        refine Pick.T (inK_u64 (by omega) (by omega)) ?_
        refine Pick.T (by simp; omega) ?_
        refine Pick.T (one_shl (by omega)) ?_
        refine Idx.by k rfl (by rw [nats_length, mrgK_length]; exact hlt) ?_
        refine Look.by _ (nats_get (by rw [mrgK_length]; exact hlt)) ?_
        refine Pick.T (inI64_of (by omega) (by omega)) ?_
        refine Next.by (k + 1) (by omega) (by omega) (by refine Weak.by [(0, some _), (1, some _)] (by (repeat' first | exact rfl | exact trivial | refine And.intro ?_ ?_); all_goals ((rw [mrgK_put hlt h1 h2, nats_set, ← orbI hx (show a < 8 by omega), ← mrgK_getD (a := a) (b := b) (k := k) hlt h1]; rfl))) (by (repeat' first | exact rfl | exact trivial | refine And.intro ?_ ?_); all_goals ((rw [mrgK_put hlt h1 h2, nats_set, ← orbI hx (show a < 8 by omega), ← mrgK_getD (a := a) (b := b) (k := k) hlt h1]; rfl))) (by rfl))
      · have h2 : (r.getD k 0).testBit b = false := by rw [← bitI _ _ hx]; exact h2
        refine Pick.T (inI64_of (by omega) (by omega)) ?_
        refine Next.by (k + 1) (by omega) (by omega) (by refine Weak.by [(0, some _), (1, some _)] (by (repeat' first | exact rfl | exact trivial | refine And.intro ?_ ?_); all_goals ((rw [skip (.inr h2)]))) (by (repeat' first | exact rfl | exact trivial | refine And.intro ?_ ?_); all_goals ((rw [skip (.inr h2)]))) (by rfl))
    · have h1 : k = a := by simp at h1; omega
      refine Pick.T (inI64_of (by omega) (by omega)) ?_
      refine Next.by (k + 1) (by omega) (by omega) (by refine Weak.by [(0, some _), (1, some _)] (by (repeat' first | exact rfl | exact trivial | refine And.intro ?_ ?_); all_goals ((rw [skip (.inl h1)]))) (by (repeat' first | exact rfl | exact trivial | refine And.intro ?_ ?_); all_goals ((rw [skip (.inl h1)]))) (by rfl))
  · have hge : r.length ≤ k := by rw [nats_length] at hc; simpa using hc
    rw [mrgK_all r a b hge]
    refine Call.by _ _ (Less8C_at ⟨hB.merge ha, by rw [mergeL_length]; exact hb⟩) ?_
    exact ⟨rfl, rfl, rfl⟩
/-! ### carcanetref08.is -/
noncomputable def Is8C : Con := conP 2 (fun a : List Nat × Int => Byt a.1 ∧ (a.2 = 1 ∧ a.1.length = 4 ∨ a.2 = 2 ∧ a.1.length = 5)) (fun a => [.one (.flat false 1 (nats a.1)), .one (.s (.i .i64 a.2))]) (fun a => .one (.s (.b (isL a.1 a.2))))
theorem Is8C_at {r : List Nat} {k : Int} (h : Byt r ∧ (k = 1 ∧ r.length = 4 ∨ k = 2 ∧ r.length = 5)) : Is8C.F [.one (.flat false 1 (nats r)), .one (.s (.i .i64 k))] = some (.one (.s (.b (isL r k))), []) :=
  conP_at (a := (r, k)) (fun x y _ _ h => by
    obtain ⟨r, a⟩ := x
    obtain ⟨r', a'⟩ := y
    simp at h
    obtain ⟨h1, h2⟩ := h
    rw [natL_inj (ints_inj h1), h2]) h
theorem eqI {x y : Nat} : ((x : Int) == (y : Int)) = (x == y) := by
  rw [Bool.eq_iff_iff]
  simp
  omega
theorem or15 {x c : Nat} (hx : x < 256) (hc : c < 256) : (borI (x : Int) (c : Int) == 15) = ((x ||| c) == 15) := by
  rw [or_nat (by omega) (by omega)]
  exact eqI (y := 15)
theorem bothI {p q : Nat} (hp : p < 8) (hq : q < 8) : boffI 31 (borI (1 * 2 ^ ((p : Int)).toNat) (1 * 2 ^ ((q : Int)).toNat)) = ((offX 31 (2 ^ p ||| 2 ^ q) : Nat) : Int) := by
  have h3 := or2_lt hp hq
  have h1 := pow7 (show p ≤ 7 by omega)
  have h2 := pow7 (show q ≤ 7 by omega)
  rw [powI, powI, or_nat (by omega) (by omega)]
  exact off_nat (x := 31) (by omega) (by omega)
theorem off31_lt (m : Nat) : offX 31 m < 32 := by
  apply Nat.lt_pow_two_of_testBit (n := 5)
  intro i hi
  rw [off_bit, Nat.testBit_lt_two_pow (Nat.lt_of_lt_of_le (show 31 < 2 ^ 5 by omega) (Nat.pow_le_pow_right (by omega) hi))]
  rfl
theorem maskI {x p q : Nat} (hx : x < 256) (hp : p < 8) (hq : q < 8) : (andI (x : Int) (boffI 31 (borI (1 * 2 ^ ((p : Int)).toNat) (1 * 2 ^ ((q : Int)).toNat))) == boffI 31 (borI (1 * 2 ^ ((p : Int)).toNat) (1 * 2 ^ ((q : Int)).toNat))) = ((x &&& offX 31 (2 ^ p ||| 2 ^ q)) == offX 31 (2 ^ p ||| 2 ^ q)) := by
  have := off31_lt (2 ^ p ||| 2 ^ q)
  rw [bothI hp hq, and_nat (by omega) (by omega)]
  exact eqI
set_option maxHeartbeats 1000000 in
theorem Is8_ok : SoundC Try.prog T 81 Is8C := by
  refine sound_con (X := { Γ := [], T := T, nt := 71 }) cr_none hmix hT sound_nil Try.func81 (by rfl) (by rfl) (by rfl) (by rfl) 2 ?_
  rintro ⟨r, k⟩ ⟨hB, hk⟩
  dsimp only at hB hk ⊢
  have hx : ∀ i, r.getD i 0 < 256 := fun i => getD_lt hB.2 (show 0 < 256 by omega) i
  refine ⟨⟨Nat.le_of_ble_eq_true rfl, Nat.le_of_ble_eq_true rfl⟩, ?_⟩
  refine Pick.by (fun h1 => ?_) (fun h1 => ?_)
  · have h1 : k = 1 := by simpa using h1
    have hl : r.length = 4 := by omega
    subst h1
    have e : isL r 1 = ((r.getD 0 0 ||| 1 == 15) && (r.getD 1 0 ||| 2 == 15) && (r.getD 2 0 ||| 4 == 15) && (r.getD 3 0 ||| 8 == 15)) := if_pos rfl
    rw [e]
    have o0 := or15 (c := 1) (hx 0) (by omega)
    have o1 := or15 (c := 2) (hx 1) (by omega)
    have o2 := or15 (c := 4) (hx 2) (by omega)
    have o3 := or15 (c := 8) (hx 3) (by omega)
    rw [← o0, ← o1, ← o2, ← o3]
    refine Idx.by 0 rfl (by rw [nats_length]; omega) ?_
    refine Look.by _ (nats_get (by omega)) ?_
    refine Pick.by (fun h0 => ?_) (fun h0 => ?_)
    · refine Idx.by 1 rfl (by rw [nats_length]; omega) ?_
      refine Look.by _ (nats_get (by omega)) ?_
      have h0' : (borI ((r.getD 0 0 : Nat) : Int) ((1 : Nat) : Int) == 15) = true := h0
      rw [h0']
      refine Pick.by (fun h1 => ?_) (fun h1 => ?_)
      · refine Idx.by 2 rfl (by rw [nats_length]; omega) ?_
        refine Look.by _ (nats_get (by omega)) ?_
        have h1' : (borI ((r.getD 1 0 : Nat) : Int) ((2 : Nat) : Int) == 15) = true := h1
        rw [h1']
        refine Pick.by (fun h2 => ?_) (fun h2 => ?_)
        · refine Idx.by 3 rfl (by rw [nats_length]; omega) ?_
          refine Look.by _ (nats_get (by omega)) ?_
          have h2' : (borI ((r.getD 2 0 : Nat) : Int) ((4 : Nat) : Int) == 15) = true := h2
          rw [h2']
          exact ⟨rfl, rfl⟩
        · have h2' : (borI ((r.getD 2 0 : Nat) : Int) ((4 : Nat) : Int) == 15) = false := h2
          rw [h2']
          exact ⟨rfl, rfl⟩
      · have h1' : (borI ((r.getD 1 0 : Nat) : Int) ((2 : Nat) : Int) == 15) = false := h1
        rw [h1']
        exact ⟨rfl, rfl⟩
    · have h0' : (borI ((r.getD 0 0 : Nat) : Int) ((1 : Nat) : Int) == 15) = false := h0
      rw [h0']
      exact ⟨rfl, rfl⟩
  have h1 : ¬ k = 1 := by simpa using h1
  have hk2 : k = 2 := by omega
  have hl : r.length = 5 := by omega
  have e : isL r k = (List.range 5).any fun p => (List.range p).any fun q => isB r p q := if_neg h1
  have yes : ∀ p q, p < 5 → q < p → isB r p q = true → isL r k = true := fun p q hp hq h => by
    rw [e]
    exact List.any_eq_true.2 ⟨p, List.mem_range.2 hp, List.any_eq_true.2 ⟨q, List.mem_range.2 hq, h⟩⟩
  refine LoopP.intro (α := Nat) (fun p => p ≤ 5 ∧ ∀ p' q', p' < p → q' < p' → isB r p' q' = false) (fun p => 5 - p) (fun p => [(0, .sl 0 none none), (5, .s (.i .i64 p))])
    (fun p => [(0, some (.flat false 1 (nats r)))]) 1 0 ⟨by omega, by intros; omega⟩ (by refine Weak.by [(0, some _)] (by (repeat' first | exact rfl | exact trivial | refine And.intro ?_ ?_)) (by (repeat' first | exact rfl | exact trivial | refine And.intro ?_ ?_)) (by rfl)) ?_
  rintro p ⟨hp, hno⟩
  refine Pick.by (fun hc => ?_) (fun hc => ?_)
  · have hp5 : p < 5 := by simp at hc; omega
    refine LoopP.intro (α := Nat) (fun q => q ≤ p ∧ ∀ q', q' < q → isB r p q' = false) (fun q => p - q) (fun q => [(0, .sl 0 none none), (5, .s (.i .i64 p)), (6, .s (.i .i64 q))])
      (fun q => [(0, some (.flat false 1 (nats r)))]) 1 0 ⟨by omega, by intros; omega⟩ (by refine Weak.by [(0, some _)] (by (repeat' first | exact rfl | exact trivial | refine And.intro ?_ ?_)) (by (repeat' first | exact rfl | exact trivial | refine And.intro ?_ ?_)) (by rfl)) ?_
    rintro q ⟨hq, hno2⟩
    refine Pick.by (fun hc2 => ?_) (fun hc2 => ?_)
    · have hqp : q < p := by simp at hc2; omega
      refine Pick.T (inK_u64 (by omega) (by omega)) ?_
      refine Pick.T (by simp; omega) ?_
      refine Pick.T (one_shl (by omega)) ?_
      refine Pick.T (inK_u64 (by omega) (by omega)) ?_
      refine Pick.T (by simp; omega) ?_
      refine Pick.T (one_shl (by omega)) ?_
      refine Idx.by p rfl (by rw [nats_length]; omega) ?_
      refine Look.by _ (nats_get (by omega)) ?_
      have m1 := maskI (p := p) (q := q) (hx p) (by omega) (by omega)
      have m2 := maskI (p := p) (q := q) (hx q) (by omega) (by omega)
      have hB2 : isB r p q = (((r.getD p 0 &&& offX 31 (2 ^ p ||| 2 ^ q)) == offX 31 (2 ^ p ||| 2 ^ q)) && ((r.getD q 0 &&& offX 31 (2 ^ p ||| 2 ^ q)) == offX 31 (2 ^ p ||| 2 ^ q))) := rfl
      have next : isB r p q = false → ∀ q', q' < q + 1 → isB r p q' = false := fun h q' hq' => by
        by_cases e : q' = q
        · rw [e]; exact h
        · exact hno2 q' (by omega)
      refine Pick.by (fun h3 => ?_) (fun h3 => ?_)
      · rw [m1.symm.trans h3] at hB2
        refine Idx.by q rfl (by rw [nats_length]; omega) ?_
        refine Look.by _ (nats_get (by omega)) ?_
        refine Pick.by (fun h4 => ?_) (fun h4 => ?_)
        · rw [m2.symm.trans h4] at hB2
          refine ⟨rfl, ?_⟩
          show Sc.b true = Sc.b (isL r k)
          rw [yes p q hp5 hqp hB2]
        · rw [m2.symm.trans h4] at hB2
          refine Pick.T (inI64_of (by omega) (by omega)) ?_
          refine Next.by (q + 1) ⟨by omega, next hB2⟩ (by omega) (by refine Weak.by [(0, some _)] (by (repeat' first | exact rfl | exact trivial | refine And.intro ?_ ?_)) (by (repeat' first | exact rfl | exact trivial | refine And.intro ?_ ?_)) (by rfl))
      · rw [m1.symm.trans h3] at hB2
        refine Pick.T (inI64_of (by omega) (by omega)) ?_
        refine Next.by (q + 1) ⟨by omega, next hB2⟩ (by omega) (by refine Weak.by [(0, some _)] (by (repeat' first | exact rfl | exact trivial | refine And.intro ?_ ?_)) (by (repeat' first | exact rfl | exact trivial | refine And.intro ?_ ?_)) (by rfl))
    · have hqp : p ≤ q := by simp at hc2; omega
      refine Pick.T (inI64_of (by omega) (by omega)) ?_
      refine Next.by (p + 1) ⟨by omega, fun p' q' h1 h2 => ?_⟩ (by omega) (by refine Weak.by [(0, some _)] (by (repeat' first | exact rfl | exact trivial | refine And.intro ?_ ?_)) (by (repeat' first | exact rfl | exact trivial | refine And.intro ?_ ?_)) (by rfl))
      by_cases e : p' = p
      · subst e; exact hno2 q' (by omega)
      · exact hno p' q' (by omega) h2
  · have hp5 : 5 ≤ p := by simp at hc; omega
    refine ⟨rfl, ?_⟩
    show Sc.b false = Sc.b (isL r k)
    congr 1
    rw [e]
    symm
    rw [List.any_eq_false]
    intro p' hp'
    rw [Bool.not_eq_true, List.any_eq_false]
    intro q' hq'
    rw [hno p' q' (by have := List.mem_range.1 hp'; omega) (List.mem_range.1 hq')]
    simp
end Go.Sh
